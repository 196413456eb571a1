import Derived.Test.YtnlpmajiccliiaaGreatDoorND
import Derived.Test.YtnlpmajiccliiaaGreatDoorNB
import Derived.Test.YtnlpmajiccliiaaGreatDoorRZ
import Derived.Test.YtnlpmajiccliiaaGreatDoorMC
set_option linter.all false
/- Walks of the reference of layer 11: next, both, behind, head. -/
namespace Ve
open Go Go.RowKit Go.Proofs

/-- Attributes that lie in the world w0, or in a block of one's own. -/
def AtS (w0 w : World) (v : Value) (l : List Attr) : Prop := RdAttrs w0 v l ∨ OwnA w v l
theorem AtS.gr {w0 w w' : World} {v : Value} {l : List Attr} (h : AtS w0 w v l) (g : Gr w w') : AtS w0 w' v l := h.imp id fun h => h.gr g
theorem AtS.rd {w0 w : World} {v : Value} {l : List Attr} (h : AtS w0 w v l) (g : Gr w0 w) : RdAttrs w v l := h.elim (fun h => RdAttrs.gr h g) fun h => h.rd
theorem AtS.sl {w0 w : World} {v : Value} {l : List Attr} (h : AtS w0 w v l) : ∃ a n c, v = .slice a n c := by
  rcases h with h | h
  · obtain ⟨a, n, c, rfl, -⟩ := RdList.sl h; exact ⟨_, _, _, rfl⟩
  · obtain ⟨a, n, c, rfl, -⟩ := h.1.sl; exact ⟨_, _, _, rfl⟩
theorem callsAt11 {P : Program} {f : FuncId} {args : Array Value} {w : World} {R : Ending → World → Prop} (h : ∀ W, w = W → Calls P f args W R) : Calls P f args w R := h w rfl
theorem Blk.newAt11 {w : World} {e : TypeId} {cs : Array Value} {g : Nat} (h : w.heap.size = g) : Blk (w.alloc (.cells cs e)) g e cs := h ▸ Blk.new w e cs
def bigO : Op := ⟨3, es, ep, 1125899906842624, []⟩
def nextO : List Op → Op
  | [] => bigO
  | o :: _ => o

set_option maxHeartbeats 2000000 in
theorem next11_any (w0 : World) (l : List Op) (v : Value) (w : World) (h0 : Gr w0 w) (hl : RdList (OpS w0) 7 w v l) :
    Calls Tryz.prog 68 #[v] w fun e w' => ∃ sl, e = .returned (opV (nextO l) sl) ∧ AtS w0 w' sl (nextO l).attrs ∧ szS (nextO l).text ∧ szS (nextO l).val.text ∧ Gr w w' := by
  obtain ⟨a, n, cap, rfl, hcap, hm, hb, hn⟩ := hl.sl
  cases l with
  | nil =>
    obtain rfl : n = 0 := hn.out.symm
    have y1 := (Blk.new w 65 #[.int .i64 3, .string ⟨#[]⟩, .int .i64 0, .int .i64 0, .string ⟨#[]⟩, .int .i64 1125899906842624, .slice none 0 0]).cell
    go_enter Tryz.func68, Tryz.ntmps68
    go_wp2
    refine bodyPost_ret (v := .agg #[.int .i64 3, .string ⟨#[]⟩, .int .i64 0, .int .i64 0, .string ⟨#[]⟩, .int .i64 1125899906842624, .slice none 0 0]) (by simp [results, Tryz.results68, go_sem, y1]; done) rfl ⟨.slice none 0 0, rfl, .inl (RdList.nil ..), by simp only [szS]; decide, by simp only [szS]; decide, ?_⟩
    exact (by repeat (with_reducible first | assumption | exact Gr.refl _ | apply Gr.alloc | apply Gr.drewN | apply Gr.drew | apply Gr.iter | (refine Gr.setCell ?_ (by simp) _) | (refine Gr.trans ?_ (by assumption))))
  | cons o r =>
    have hml : n = r.length + 1 := hn.out.symm
    obtain ⟨b, off, ⟨k, t, ⟨va, vb, vt⟩, c, ats⟩, cs, rfl, hx, ⟨sl', rfl, hra0, s1, s2⟩, _, hc⟩ := RdList.get hl 0 (by omega)
    have c0 := hc 0 _ (by omega) rfl; have c1 := hc 1 _ (by omega) rfl; have c2 := hc 2 _ (by omega) rfl; have c3 := hc 3 _ (by omega) rfl; have c4 := hc 4 _ (by omega) rfl; have c5 := hc 5 _ (by omega) rfl; have c6 := hc 6 _ (by omega) rfl
    clear hc
    simp only [List.getElem?_cons_zero, Option.some.injEq] at hx
    subst hx
    simp only [Nat.zero_mul, Nat.add_zero] at c0 c1 c2 c3 c4 c5 c6
    dsimp only at s1 s2 hra0 c0 c1 c2 c3 c4 c5 c6
    obtain ⟨sa, sn, sc, rfl⟩ := AtS.sl (w0 := w0) (w := w) hra0
    have hm0 : (n == 0) = false := by simp; omega
    have hmi : ((n : Int) == 0) = false := by simp; omega
    have hmpos : 0 < n := by omega
    have Hml := Lib.hid hml; clear hml
    have gA : Gr w (w.alloc (.cells #[.int .i64 0, .string ⟨#[]⟩, .int .i64 0, .int .i64 0, .string ⟨#[]⟩, .int .i64 0, .slice none 0 0] 65)) := (by repeat (with_reducible first | assumption | exact Gr.refl _ | apply Gr.alloc | apply Gr.drewN | apply Gr.drew | apply Gr.iter | (refine Gr.setCell ?_ (by simp) _) | (refine Gr.trans ?_ (by assumption))))
    have d0 := gA.cell c0; have d1 := gA.cell c1; have d2 := gA.cell c2; have d3 := gA.cell c3; have d4 := gA.cell c4; have d5 := gA.cell c5; have d6 := gA.cell c6
    clear gA
    have y1 := (Blk.new w 65 #[.int .i64 k, .string t, .int .i64 va, .int .i64 vb, .string vt, .int .i64 c, .slice sa sn sc]).cell
    go_enter Tryz.func68, Tryz.ntmps68
    go_wp2
    refine bodyPost_ret (v := .agg #[.int .i64 k, .string t, .int .i64 va, .int .i64 vb, .string vt, .int .i64 c, .slice sa sn sc]) (by simp [results, Tryz.results68, go_sem, y1]; done) rfl ⟨.slice sa sn sc, rfl, ?_, s1, s2, ?_⟩
    · exact AtS.gr (w := w) hra0 (by repeat (with_reducible first | assumption | exact Gr.refl _ | apply Gr.alloc | apply Gr.drewN | apply Gr.drew | apply Gr.iter | (refine Gr.setCell ?_ (by simp) _) | (refine Gr.trans ?_ (by assumption))))
    · exact (by repeat (with_reducible first | assumption | exact Gr.refl _ | apply Gr.alloc | apply Gr.drewN | apply Gr.drew | apply Gr.iter | (refine Gr.setCell ?_ (by simp) _) | (refine Gr.trans ?_ (by assumption))))

/-- What n cells of two operations come to. -/
def bothO (x y : Op) : List Op :=
  if y.kind = 4 then (if x.kind = 3 then [y] else []) else [{ x with attrs := compA (decide (x.kind = 3)) x.attrs y.attrs }]
theorem rd_op1 {w0 w : World} {g : Nat} {o : Op} {sl : Value} (h : Blk w g 65 #[.int .i64 o.kind, .string o.text, .int .i64 o.val.kind, .int .i64 o.val.num, .string o.val.text, .int .i64 o.count, sl]) (ha : AtS w0 w sl o.attrs) (s1 : szS o.text) (s2 : szS o.val.text) : RdList (OpS w0) 7 w (.slice (some ⟨g, 0, none⟩) 1 1) [o] := by
  refine ⟨some ⟨g, 0, none⟩, 1, [.int .i64 o.kind, .string o.text, .int .i64 o.val.kind, .int .i64 o.val.num, .string o.val.text, .int .i64 o.count, sl], rfl, Nat.le_refl _, by unfold maxLen; omega, by simp, ⟨_, [], rfl, rfl, ⟨sl, rfl, ha, s1, s2⟩, rfl⟩, fun _ => ⟨g, 0, rfl, fun j u hu => ?_⟩⟩
  rw [Nat.zero_add, h.cell j, ← hu]
  simp

set_option maxHeartbeats 4000000 in
theorem both11_any (w0 : World) (x y : Op) (sx sy : Value) (w : World) (h0 : Gr w0 w) (hx : AtS w0 w sx x.attrs) (hy : AtS w0 w sy y.attrs) (s1 : szS x.text) (s2 : szS x.val.text) (s3 : szS y.text) (s4 : szS y.val.text) (hr : y.kind ≠ 4 → riseA none x.attrs = true) (hN : x.attrs.length + y.attrs.length ≤ 1099511627776) :
    Calls Tryz.prog 71 #[opV x sx, opV y sy] w fun e w' => ∃ v', e = .returned v' ∧ RdList (OpS w0) 7 w' v' (bothO x y) ∧ Gr w w' := by
  obtain ⟨xa, xn, xc, rfl⟩ := hx.sl
  obtain ⟨ya, yn, yc, rfl⟩ := hy.sl
  obtain ⟨xk, xt, ⟨xva, xvb, xvt⟩, xct, xl⟩ := x
  obtain ⟨yk, yt, ⟨yva, yvb, yvt⟩, yct, yl⟩ := y
  simp only at hx hy s1 s2 s3 s4 hr hN
  dsimp only [opV]
  by_cases h4 : yk = 4
  · subst h4
    by_cases h3 : xk = 3
    · subst h3
      go_enter Tryz.func71, Tryz.ntmps71
      go_wp2
      go_ret
      refine ⟨_, rfl, ?_, (by repeat (with_reducible first | assumption | exact Gr.refl _ | apply Gr.alloc | apply Gr.drewN | apply Gr.drew | apply Gr.iter | (refine Gr.setCell ?_ (by simp) _) | (refine Gr.trans ?_ (by assumption))))⟩
      have e : bothO ⟨3, xt, ⟨xva, xvb, xvt⟩, xct, xl⟩ ⟨4, yt, ⟨yva, yvb, yvt⟩, yct, yl⟩ = [⟨4, yt, ⟨yva, yvb, yvt⟩, yct, yl⟩] := rfl
      rw [e]
      exact rd_op1 (Blk.newAt11 (by simp)) (hy.gr (by repeat (with_reducible first | assumption | exact Gr.refl _ | apply Gr.alloc | apply Gr.drewN | apply Gr.drew | apply Gr.iter | (refine Gr.setCell ?_ (by simp) _) | (refine Gr.trans ?_ (by assumption))))) s3 s4
    · have h31 : (xk == 3) = false := by simpa using h3
      go_enter Tryz.func71, Tryz.ntmps71
      go_wp2
      go_ret
      refine ⟨_, rfl, ?_, (by repeat (with_reducible first | assumption | exact Gr.refl _ | apply Gr.alloc | apply Gr.drewN | apply Gr.drew | apply Gr.iter | (refine Gr.setCell ?_ (by simp) _) | (refine Gr.trans ?_ (by assumption))))⟩
      have e : bothO ⟨xk, xt, ⟨xva, xvb, xvt⟩, xct, xl⟩ ⟨4, yt, ⟨yva, yvb, yvt⟩, yct, yl⟩ = [] := by simp [bothO, h3]
      rw [e]
      exact RdList.nil ..
  · have h41 : (yk == 4) = false := by simpa using h4
    have hr := hr h4
    have hN2 := comp_len (decide (xk = 3)) xl yl
    by_cases h3 : xk = 3
    · subst h3
      have b2 := Blk.new w 65 #[.int .i64 3, .string xt, .int .i64 xva, .int .i64 xvb, .string xvt, .int .i64 xct, .slice xa xn xc]
      have e : bothO ⟨3, xt, ⟨xva, xvb, xvt⟩, xct, xl⟩ ⟨yk, yt, ⟨yva, yvb, yvt⟩, yct, yl⟩ = [⟨3, xt, ⟨xva, xvb, xvt⟩, xct, mergeA xl yl⟩] := by simp [bothO, h4, compA]
      rw [e]
      clear e
      go_enter Tryz.func71, Tryz.ntmps71
      go_wp2_with (go_at_call 114; refine callsAt11 ?_; intro W hW; (have hgW : Gr w W := by (subst hW; exact (by repeat (with_reducible first | assumption | exact Gr.refl _ | apply Gr.alloc | apply Gr.drewN | apply Gr.drew | apply Gr.iter | (refine Gr.setCell ?_ (by simp) _) | (refine Gr.trans ?_ (by assumption)))))); (have B2 : Blk W w.heap.size 65 #[.int .i64 3, .string xt, .int .i64 xva, .int .i64 xvb, .string xvt, .int .i64 xct, .slice xa xn xc] := by (subst hW; (repeat (with_reducible first | assumption | apply Blk.set | (apply Blk.far (hp := by simp; omega)) | apply Blk.alloc | apply Blk.drewN | apply Blk.drew | (apply Blk.gr (hg := by assumption)) | (apply Blk.kg (k := by assumption) (hne := by decide)))))); clear hW; refine (rjoin_any xl yl _ _ W (RdAttrs.gr (hx.rd h0) hgW) (RdAttrs.gr (hy.rd h0) hgW) hr hN).mono ?_; rintro e w1 ⟨v1, rfl, hO1, hg1⟩; obtain ⟨a1, n1, c1, rfl, -⟩ := hO1.sl; have B3 := B2.gr hg1; have c3 := B3.cell; have f3 := B3.frozen; have z3 := B3.lt; have hg3 := Gr.trans hgW hg1; have hzW := hgW.size)
      go_ret
      have hO2 := OwnL.setCell (R := AttrR) hO1 (a := ⟨w.heap.size, 6, none⟩) (Nat.lt_of_lt_of_le B2.lt (Nat.le_refl _)) (.slice a1 n1 c1) (fun _ _ h => h)
      refine ⟨_, rfl, rd_op1 (o := ⟨3, xt, ⟨xva, xvb, xvt⟩, xct, mergeA xl yl⟩) (Blk.newAt11 (by simp)) (.inr (OwnA.gr (OwnAL.rd hO2 (show List.length (mergeA xl yl) ≤ 1099511627776 by first | (have := merge_len _ xl yl (Nat.le_refl _); omega) | (have := comp_len false xl yl; omega))) (by repeat (with_reducible first | assumption | exact Gr.refl _ | apply Gr.alloc | apply Gr.drewN | apply Gr.drew | apply Gr.iter | (refine Gr.setCell ?_ (by simp) _) | (refine Gr.trans ?_ (by assumption)))))) s1 s2, ?_⟩
      exact Gr.alloc (hg3.setCell (Nat.le_refl _) _) _
    · have h31 : (xk == 3) = false := by simpa using h3
      have b2 := Blk.new w 65 #[.int .i64 xk, .string xt, .int .i64 xva, .int .i64 xvb, .string xvt, .int .i64 xct, .slice xa xn xc]
      have e : bothO ⟨xk, xt, ⟨xva, xvb, xvt⟩, xct, xl⟩ ⟨yk, yt, ⟨yva, yvb, yvt⟩, yct, yl⟩ = [⟨xk, xt, ⟨xva, xvb, xvt⟩, xct, compA false xl yl⟩] := by simp [bothO, h4, h3]
      rw [e]
      clear e
      go_enter Tryz.func71, Tryz.ntmps71
      go_wp2_with (go_at_call 115; refine callsAt11 ?_; intro W hW; (have hgW : Gr w W := by (subst hW; exact (by repeat (with_reducible first | assumption | exact Gr.refl _ | apply Gr.alloc | apply Gr.drewN | apply Gr.drew | apply Gr.iter | (refine Gr.setCell ?_ (by simp) _) | (refine Gr.trans ?_ (by assumption)))))); (have B2 : Blk W w.heap.size 65 #[.int .i64 xk, .string xt, .int .i64 xva, .int .i64 xvb, .string xvt, .int .i64 xct, .slice xa xn xc] := by (subst hW; (repeat (with_reducible first | assumption | apply Blk.set | (apply Blk.far (hp := by simp; omega)) | apply Blk.alloc | apply Blk.drewN | apply Blk.drew | (apply Blk.gr (hg := by assumption)) | (apply Blk.kg (k := by assumption) (hne := by decide)))))); clear hW; refine (rpatched_any xl yl _ _ W (RdAttrs.gr (hx.rd h0) hgW) (RdAttrs.gr (hy.rd h0) hgW) hr hN).mono ?_; rintro e w1 ⟨v1, rfl, hO1, hg1⟩; obtain ⟨a1, n1, c1, rfl, -⟩ := hO1.sl; have B3 := B2.gr hg1; have c3 := B3.cell; have f3 := B3.frozen; have z3 := B3.lt; have hg3 := Gr.trans hgW hg1; have hzW := hgW.size)
      go_ret
      have hO2 := OwnL.setCell (R := AttrR) hO1 (a := ⟨w.heap.size, 6, none⟩) (Nat.lt_of_lt_of_le B2.lt (Nat.le_refl _)) (.slice a1 n1 c1) (fun _ _ h => h)
      refine ⟨_, rfl, rd_op1 (o := ⟨xk, xt, ⟨xva, xvb, xvt⟩, xct, compA false xl yl⟩) (Blk.newAt11 (by simp)) (.inr (OwnA.gr (OwnAL.rd hO2 (show List.length (compA false xl yl) ≤ 1099511627776 by first | (have := merge_len _ xl yl (Nat.le_refl _); omega) | (have := comp_len false xl yl; omega))) (by repeat (with_reducible first | assumption | exact Gr.refl _ | apply Gr.alloc | apply Gr.drewN | apply Gr.drew | apply Gr.iter | (refine Gr.setCell ?_ (by simp) _) | (refine Gr.trans ?_ (by assumption)))))) s1 s2, ?_⟩
      exact Gr.alloc (hg3.setCell (Nat.le_refl _) _) _

theorem own_ltO {R : World → Op → List Value → Prop} {w : World} {base : Nat} {v : Value} {l : List Op} (h : OwnL R 7 base 65 w v l) : ∀ b, v.ownBlock = some b → base ≤ b := by
  obtain ⟨xs, ho, -⟩ := h
  exact fun b hb => (ho.lt b hb).1
/-- A literal of one operation, and a list behind it. -/
theorem app_litD (w0 w X : World) (ty : TypeId) {o : Op} {sl rs : Value} {r : List Op} (hX : Gr (w.alloc (.cells #[.int .i64 o.kind, .string o.text, .int .i64 o.val.kind, .int .i64 o.val.num, .string o.val.text, .int .i64 o.count, sl] 65)) X) (hp : AtS w0 w sl o.attrs) (h1 : szS o.text) (h2 : szS o.val.text) (hr : RdList (OpS w0) 7 X rs r) (hlen : r.length + 1 ≤ 1099511627776) :
    ∃ v' w', (appSh #[22, 22] ty #[.slice (some ⟨w.heap.size, 0, none⟩) 1 1, rs]).run Tryz.prog X = .ok v' w' ∧ OwnL (OpS w0) 7 w.heap.size 65 w' v' (o :: r) ∧ Gr w w' := by
  have hg : Gr w (w.alloc (.cells #[.int .i64 o.kind, .string o.text, .int .i64 o.val.kind, .int .i64 o.val.num, .string o.val.text, .int .i64 o.count, sl] 65)) := (Gr.refl w).alloc _
  have ho : (w.alloc (.cells #[.int .i64 o.kind, .string o.text, .int .i64 o.val.kind, .int .i64 o.val.num, .string o.val.text, .int .i64 o.count, sl] 65)).ownsRow w.heap.size 65 7 (.slice (some ⟨w.heap.size, 0, none⟩) 1 1) 1 [.int .i64 o.kind, .string o.text, .int .i64 o.val.kind, .int .i64 o.val.num, .string o.val.text, .int .i64 o.count, sl] :=
    ⟨by simp, .inr ⟨w.heap.size, 1, #[.int .i64 o.kind, .string o.text, .int .i64 o.val.kind, .int .i64 o.val.num, .string o.val.text, .int .i64 o.count, sl], rfl, Nat.le_refl _, heap_alloc_new w _, Nat.le_refl _, by simp [maxLen], by simp, by simp⟩⟩
  have hS : OpS w0 w o [.int .i64 o.kind, .string o.text, .int .i64 o.val.kind, .int .i64 o.val.num, .string o.val.text, .int .i64 o.count, sl] := ⟨sl, rfl, hp, h1, h2⟩
  have hown : OwnL (OpS w0) 7 w.heap.size 65 X (.slice (some ⟨w.heap.size, 0, none⟩) 1 1) [o] := OwnL.gr (show OwnL (OpS w0) 7 w.heap.size 65 _ _ [o] from ⟨_, ho, RowsR.one rfl (hS.gr hg)⟩) (fun _ _ h => OpS.gr h hX) hX
  obtain ⟨v', w', e1, e2, e3, -⟩ := app_opS w0 X w.heap.size ty hown hr (by simp; omega) (hg.trans hX).size
  rw [append_sh] at e1
  exact ⟨v', w', e1, e2, Gr.kgs (hg.trans hX) e3 (fun b hb => by simp [Value.ownBlock] at hb; omega)⟩
attribute [local go_sem ↓] append_sh sliced_sh

set_option maxHeartbeats 4000000 in
theorem behind11_nil (w0 : World) (l : List Op) (vl : Value) (w : World) (hl : RdList (OpS w0) 7 w vl l) (hne : l ≠ []) (c : Nat) :
    Calls Tryz.prog 72 #[.slice none 0 c, vl] w fun e w' => ∃ v', e = .returned v' ∧ RdList (OpS w0) 7 w' v' l.tail ∧ (∀ b, v'.ownBlock = some b → vl.ownBlock = some b) ∧ Gr w w' := by
  obtain ⟨a, n, cap, rfl, hcap, hm, hb, hn⟩ := hl.sl
  have hn0 : n ≠ 0 := fun e => hne (List.eq_nil_of_length_eq_zero (by rw [hn.out, e]))
  have hn1 : 1 ≤ n := by omega
  have hn2 : (1 : Int) ≤ n := by omega
  obtain ⟨b, off, x, cs, rfl, -⟩ := hl.get 0 (by omega)
  obtain ⟨ad, hsl, hrd⟩ := rd_slSh hl 1 hn1
  have had : ∀ b', (Value.slice ad (n - 1) (cap - 1)).ownBlock = some b' → (Value.slice (some ⟨b, off, none⟩) n cap).ownBlock = some b' := by
    have h2 := hsl
    rw [← sliced_sh] at h2
    simp only [sliced] at h2
    intro b' hb'
    rw [← h2] at hb'
    split at hb'
    · simpa [Value.ownBlock] using hb'
    · simp only [Option.map_some, Value.ownBlock, Addr.add] at hb' ⊢
      split at hb' <;> simpa using hb'
  have hT : l.drop 1 = l.tail := List.drop_one
  rw [hT] at hrd
  have HR := Lib.hid (And.intro hrd had); clear hrd had hT
  go_enter Tryz.func72, Tryz.ntmps72
  go_wp2
  go_ret
  exact ⟨_, rfl, HR.out.1, HR.out.2, (by repeat (with_reducible first | assumption | exact Gr.refl _ | apply Gr.alloc | apply Gr.drewN | apply Gr.drew | apply Gr.iter | (refine Gr.setCell ?_ (by simp) _) | (refine Gr.trans ?_ (by assumption))))⟩
set_option maxHeartbeats 4000000 in
theorem behind11_one (w0 : World) (y : Op) (l : List Op) (vf vl : Value) (w : World) (h0 : Gr w0 w) (hf : RdList (OpS w0) 7 w vf [y]) (hl : RdList (OpS w0) 7 w vl l) (hne : l ≠ []) (hlen : l.length + 1 ≤ 1099511627776) :
    Calls Tryz.prog 72 #[vf, vl] w fun e w' => ∃ v', e = .returned v' ∧ RdList (OpS w0) 7 w' v' (y :: l.tail) ∧ (∀ b, v'.ownBlock = some b → w.heap.size ≤ b ∧ b < w'.heap.size) ∧ Gr w w' := by
  obtain ⟨a, n, cap, rfl, hcap, hm, hb, hn⟩ := hl.sl
  obtain ⟨fa, fn, fc, rfl, -, -, -, hfn⟩ := hf.sl
  obtain rfl : fn = 1 := by have := hfn.out; simpa using this.symm
  have hn0 : n ≠ 0 := fun e => hne (List.eq_nil_of_length_eq_zero (by rw [hn.out, e]))
  have hn1 : 1 ≤ n := by omega
  have hn2 : (1 : Int) ≤ n := by omega
  obtain ⟨fb, foff, ⟨k, t, ⟨va, vb, vt⟩, c, ats⟩, cs, rfl, hx, ⟨sl', rfl, hra0, s1, s2⟩, _, hc⟩ := RdList.get hf 0 (by omega)
  have c0 := hc 0 _ (by omega) rfl; have c1 := hc 1 _ (by omega) rfl; have c2 := hc 2 _ (by omega) rfl; have c3 := hc 3 _ (by omega) rfl; have c4 := hc 4 _ (by omega) rfl; have c5 := hc 5 _ (by omega) rfl; have c6 := hc 6 _ (by omega) rfl
  clear hc
  simp only [List.getElem?_cons_zero, Option.some.injEq] at hx
  subst hx
  simp only [Nat.zero_mul, Nat.add_zero] at c0 c1 c2 c3 c4 c5 c6
  dsimp only at s1 s2 hra0 c0 c1 c2 c3 c4 c5 c6
  obtain ⟨sa, sn, sc, rfl⟩ := AtS.sl (w0 := w0) (w := w) hra0
  obtain ⟨X, hX⟩ : ∃ X, (w.alloc (.cells #[.int .i64 k, .string t, .int .i64 va, .int .i64 vb, .string vt, .int .i64 c, .slice sa sn sc] 65)).drew = X := ⟨_, rfl⟩
  have gX : Gr (w.alloc (.cells #[.int .i64 k, .string t, .int .i64 va, .int .i64 vb, .string vt, .int .i64 c, .slice sa sn sc] 65)) X := by subst hX; exact (by repeat (with_reducible first | assumption | exact Gr.refl _ | apply Gr.alloc | apply Gr.drewN | apply Gr.drew | apply Gr.iter | (refine Gr.setCell ?_ (by simp) _) | (refine Gr.trans ?_ (by assumption))))
  have gwX : Gr w X := Gr.trans ((Gr.refl w).alloc _) gX
  obtain ⟨ad, hsl, hrd⟩ := rd_slSh (RdList.gr (w := w) hl (fun _ _ h => OpS.gr h gwX) gwX) 1 hn1
  have hT : l.drop 1 = l.tail := List.drop_one
  rw [hT] at hrd
  obtain ⟨v', w', hrun, hown, hgw⟩ := app_litD w0 w X 22 (o := ⟨k, t, ⟨va, vb, vt⟩, c, ats⟩) gX hra0 s1 s2 hrd (by rw [List.length_tail]; omega)
  have hlt := OwnL.lt_ hown
  have hrd' : RdList (OpS w0) 7 w' v' (⟨k, t, ⟨va, vb, vt⟩, c, ats⟩ :: l.tail) := OwnL.rd hown (by rw [List.length_cons, List.length_tail]; omega)
  obtain ⟨x1, x2, x3, rfl, -⟩ := hown.sl
  subst hX
  have HR := Lib.hid (And.intro hrd' (And.intro hlt hgw)); clear hrd hown hrd' hlt hgw hT gX gwX
  have d0 := (((Gr.refl w).alloc (.cells #[.int .i64 k, .string t, .int .i64 va, .int .i64 vb, .string vt, .int .i64 c, .slice sa sn sc] 65)).drew).cell c0
  go_enter Tryz.func72, Tryz.ntmps72
  go_wp2
  go_region
  all_goals go_wp2
  all_goals go_ret
  all_goals exact ⟨_, rfl, HR.out.1, HR.out.2.1, HR.out.2.2⟩

end Ve
/- Walks of the reference of layer 11: head. -/
namespace Ve
open Go Go.RowKit Go.Proofs

theorem postAt {P : Program} {fn : Func} {R : Ending → World → Prop} {x : Exit} {a : Act} {w : World} (h : ∀ W, w = W → bodyPost P fn R x a W) : bodyPost P fn R x a w := h w rfl
theorem ok_count {o : Op} (h : checkOp o = 0) (hk : o.kind = 3 ∨ o.kind = 4) : 1 ≤ o.count ∧ o.count ≤ 1099511627776 := by
  have e := op_toPiece h
  rcases hk with k | k
  · have ht : toPiece o = .ret o.attrs o.count := by simp [toPiece, k]
    have hp : pOk (.ret o.attrs o.count) := ⟨by rw [← ht, e]; exact h, by rw [← ht, e]⟩
    have := ret_ok.1 hp; exact ⟨this.1, this.2.1⟩
  · have ht : toPiece o = .del o.count := by simp [toPiece, k]
    have hp : pOk (.del o.count) := ⟨by rw [← ht, e]; exact h, by rw [← ht, e]⟩
    exact del_ok.1 hp
/-- The first n cells of an operation, and what is left. -/
def headO (o : Op) (n : Int) : Op × List Op := if rlen o ≤ n then (o, []) else ((cutO o n).1, [(cutO o n).2])

set_option maxHeartbeats 4000000 in
theorem head11_all (o : Op) (n : Int) (sl : Value) (w0 w : World) (h0 : Gr w0 w) (ha : AtS w0 w sl o.attrs) (s1 : szS o.text) (hn : rlen o ≤ n) :
    Calls Tryz.prog 70 #[opV o sl, .int .i64 n] w fun e w' => e = .returned (.tuple #[opV o sl, .slice none 0 0]) ∧ Gr w w' := by
  obtain ⟨xa, xn, xc, rfl⟩ := ha.sl
  obtain ⟨k, t, ⟨va, vb, vt⟩, c, l⟩ := o
  simp only at ha s1
  dsimp only [opV]
  obtain ⟨R, hR⟩ : ∃ R, rlen ⟨k, t, ⟨va, vb, vt⟩, c, l⟩ = R := ⟨_, rfl⟩
  rw [hR] at hn
  have HR := Lib.hid hR; clear hR
  have b2 := Blk.new w 65 #[.int .i64 k, .string t, .int .i64 va, .int .i64 vb, .string vt, .int .i64 c, .slice xa xn xc]
  go_enter Tryz.func70, Tryz.ntmps70
  go_wp2_with (go_at_call 69; refine callsAt11 ?_; intro W hW; (have hgW : Gr w W := by (subst hW; exact (by repeat (with_reducible first | assumption | exact Gr.refl _ | apply Gr.alloc | apply Gr.drewN | apply Gr.drew | apply Gr.iter | (refine Gr.setCell ?_ (by simp) _) | (refine Gr.trans ?_ (by assumption)))))); (have B2 : Blk W w.heap.size 65 #[.int .i64 k, .string t, .int .i64 va, .int .i64 vb, .string vt, .int .i64 c, .slice xa xn xc] := by (subst hW; (repeat (with_reducible first | assumption | apply Blk.set | (apply Blk.far (hp := by simp; omega)) | apply Blk.alloc | apply Blk.drewN | apply Blk.drew | (apply Blk.gr (hg := by assumption)) | (apply Blk.kg (k := by assumption) (hne := by decide)))))); (have B4 : Blk W (w.heap.size + 1) 65 #[.int .i64 0, .string ⟨#[]⟩, .int .i64 0, .int .i64 0, .string ⟨#[]⟩, .int .i64 0, .slice none 0 0] := by (subst hW; exact Blk.newAt11 (by simp))); clear hW; refine (rlen_any k t va vb vt c _ l _ (RdAttrs.gr (ha.rd h0) hgW) s1).mono ?_; rw [HR.out]; rintro e w1 ⟨rfl, hg1⟩; have D2 := B2.gr hg1; have D4 := B4.gr hg1; have hgw := Gr.trans hgW hg1; have d2 := D2.cell; have f2 := D2.frozen; have z2 := D2.lt; have d4 := D4.cell; have f4 := D4.frozen; have z4 := D4.lt)
  have T1 := D4.set7M (.int .i64 k) (.string t) (.int .i64 va) (.int .i64 vb) (.string vt) (.int .i64 c) (.slice xa xn xc)
  have y1 := T1.cell
  refine bodyPost_ret (v := .tuple #[.agg #[.int .i64 k, .string t, .int .i64 va, .int .i64 vb, .string vt, .int .i64 c, .slice xa xn xc], .slice none 0 0]) (by simp [results, Tryz.results70, go_sem, y1]; done) rfl ⟨rfl, ?_⟩
  exact gr7M hgw (by omega) _ _ _ _ _ _ _
set_option maxHeartbeats 8000000 in
theorem head11_cnt (k : Int) (t : ByteArray) (va vb : Int) (vt : ByteArray) (c : Int) (l : List Attr) (n : Int) (sl : Value) (w0 w : World) (h0 : Gr w0 w) (ha : AtS w0 w sl l) (s1 : szS t) (s2 : szS vt) (hk : k = 3 ∨ k = 4) (hn : n < c) (hn1 : 1 ≤ n) (hc : c ≤ 1125899906842624) :
    Calls Tryz.prog 70 #[opV ⟨k, t, ⟨va, vb, vt⟩, c, l⟩ sl, .int .i64 n] w fun e w' => ∃ lv, e = .returned (.tuple #[opV ⟨k, t, ⟨va, vb, vt⟩, n, l⟩ sl, lv]) ∧ RdList (OpS w0) 7 w' lv [⟨k, t, ⟨va, vb, vt⟩, c - n, l⟩] ∧ (∀ b, lv.ownBlock = some b → w.heap.size ≤ b) ∧ Gr w w' := by
  obtain ⟨xa, xn, xc, rfl⟩ := ha.sl
  dsimp only [opV]
  obtain ⟨R, hR⟩ : ∃ R, rlen ⟨k, t, ⟨va, vb, vt⟩, c, l⟩ = R := ⟨_, rfl⟩
  have hRc : R = c := by rw [← hR]; unfold rlen; rw [if_neg (by dsimp only; omega), if_neg (by dsimp only; omega)]
  subst hRc
  have HR := Lib.hid hR; clear hR
  have b2 := Blk.new w 65 #[.int .i64 k, .string t, .int .i64 va, .int .i64 vb, .string vt, .int .i64 R, .slice xa xn xc]
  have k1 : (k == 1) = false := by simp; omega
  have k2 : (k == 2) = false := by simp; omega
  go_enter Tryz.func70, Tryz.ntmps70
  go_wp2_with (go_at_call 69; refine callsAt11 ?_; intro W hW; (have hgW : Gr w W := by (subst hW; exact (by repeat (with_reducible first | assumption | exact Gr.refl _ | apply Gr.alloc | apply Gr.drewN | apply Gr.drew | apply Gr.iter | (refine Gr.setCell ?_ (by simp) _) | (refine Gr.trans ?_ (by assumption)))))); (have B2 : Blk W w.heap.size 65 #[.int .i64 k, .string t, .int .i64 va, .int .i64 vb, .string vt, .int .i64 R, .slice xa xn xc] := by (subst hW; (repeat (with_reducible first | assumption | apply Blk.set | (apply Blk.far (hp := by simp; omega)) | apply Blk.alloc | apply Blk.drewN | apply Blk.drew | (apply Blk.gr (hg := by assumption)) | (apply Blk.kg (k := by assumption) (hne := by decide)))))); (have B4 : Blk W (w.heap.size + 1) 65 #[.int .i64 0, .string ⟨#[]⟩, .int .i64 0, .int .i64 0, .string ⟨#[]⟩, .int .i64 0, .slice none 0 0] := by (subst hW; exact Blk.newAt11 (by simp))); clear hW; refine (rlen_any k t va vb vt R _ l _ (RdAttrs.gr (ha.rd h0) hgW) s1).mono ?_; rw [HR.out]; rintro e w1 ⟨rfl, hg1⟩; have D2 := B2.gr hg1; have D4 := B4.gr hg1; have hgw := Gr.trans hgW hg1; have d2 := D2.cell; have f2 := D2.frozen; have z2 := D2.lt; have d4 := D4.cell; have f4 := D4.frozen; have z4 := D4.lt)
  go_region
  · obtain ⟨P, hP⟩ : ∃ P, w1.heap.size = P := ⟨_, rfl⟩
    obtain ⟨P', hP'⟩ : ∃ P', P + 1 = P' := ⟨_, rfl⟩
    obtain ⟨X, hX⟩ : ∃ X, ((w1.alloc (.cells #[.int .i64 k, .string t, .int .i64 va, .int .i64 vb, .string vt, .int .i64 R, .slice xa xn xc] 65)).alloc (.cells #[.int .i64 k, .string t, .int .i64 va, .int .i64 vb, .string vt, .int .i64 R, .slice xa xn xc] 65)).drew = X := ⟨_, rfl⟩
    have E9 : Blk X P 65 #[.int .i64 k, .string t, .int .i64 va, .int .i64 vb, .string vt, .int .i64 R, .slice xa xn xc] := by subst hX; exact ((Blk.newAt11 hP).alloc _).gr ((Gr.refl _).drew)
    have E10 : Blk X P' 65 #[.int .i64 k, .string t, .int .i64 va, .int .i64 vb, .string vt, .int .i64 R, .slice xa xn xc] := by subst hX; exact (Blk.newAt11 (by simp; omega)).gr ((Gr.refl _).drew)
    have gX : Gr w1 X := by subst hX; exact (by repeat (with_reducible first | assumption | exact Gr.refl _ | apply Gr.alloc | apply Gr.drewN | apply Gr.drew | apply Gr.iter | (refine Gr.setCell ?_ (by simp) _) | (refine Gr.trans ?_ (by assumption))))
    rw [hP, hP', hX]
    have F2 := D2.gr gX; have F4 := D4.gr gX
    have zP : w.heap.size + 1 < P := by omega
    clear hX hP d2 f2 z2 d4 f4 z4
    have e9 := E9.cell; have ef9 := E9.frozen; have ez9 := E9.lt
    have e10 := E10.cell; have ef10 := E10.frozen; have ez10 := E10.lt
    have d2 := F2.cell; have f2 := F2.frozen; have z2 := F2.lt
    have d4 := F4.cell; have f4 := F4.frozen; have z4 := F4.lt
    have np1 : ¬ P = P' := by omega
    have np2 : ¬ P' = P := by omega
    have np3 : ¬ P = w.heap.size := by omega
    have np4 : ¬ P = w.heap.size + 1 := by omega
    have np5 : ¬ P' = w.heap.size := by omega
    have np6 : ¬ P' = w.heap.size + 1 := by omega
    have np7 : ¬ w.heap.size = P := by omega
    have np8 : ¬ w.heap.size + 1 = P := by omega
    have np9 : ¬ w.heap.size = P' := by omega
    have np10 : ¬ w.heap.size + 1 = P' := by omega
    go_wp2
    go_region
    go_wp2
    have hgX := Gr.trans hgw gX
    refine postAt ?_
    intro FW hFW
    have T1 : Blk FW (w.heap.size + 1) 65 #[.int .i64 k, .string t, .int .i64 va, .int .i64 vb, .string vt, .int .i64 n, .slice xa xn xc] := by
      subst hFW
      exact ((((F4.far (p := ⟨P, 5, none⟩) np8 (.int .i64 n)).far (p := ⟨P', 5, none⟩) np10 (.int .i64 (R - n))).set7M (.int .i64 k) (.string t) (.int .i64 va) (.int .i64 vb) (.string vt) (.int .i64 n) (.slice xa xn xc)).alloc _).gr ((Gr.refl _).drew)
    have T2 : Blk FW X.heap.size 65 #[.int .i64 k, .string t, .int .i64 va, .int .i64 vb, .string vt, .int .i64 (R - n), .slice xa xn xc] := by
      subst hFW
      exact (Blk.newAt11 (by simp)).gr ((Gr.refl _).drew)
    have gF : Gr w FW := by
      subst hFW
      exact ((gr7M ((hgX.setCell (by dsimp only; omega) _).setCell (by dsimp only; omega) _) (by omega) _ _ _ _ _ _ _).alloc _).drew
    clear hFW
    have y1 := T1.cell
    refine bodyPost_ret (v := .tuple #[.agg #[.int .i64 k, .string t, .int .i64 va, .int .i64 vb, .string vt, .int .i64 n, .slice xa xn xc], .slice (some ⟨X.heap.size, 0, none⟩) 1 1]) (by simp [results, Tryz.results70, go_sem, y1]; done) rfl ⟨_, rfl, ?_, fun b hb => (by have h := hgX.size; simp only [Value.ownBlock, Option.some.injEq] at hb; omega), gF⟩
    exact rd_op1 (o := ⟨k, t, ⟨va, vb, vt⟩, R - n, l⟩) T2 (ha.gr gF) s1 s2
  · obtain ⟨P, hP⟩ : ∃ P, w1.heap.size = P := ⟨_, rfl⟩
    obtain ⟨P', hP'⟩ : ∃ P', P + 1 = P' := ⟨_, rfl⟩
    obtain ⟨X, hX⟩ : ∃ X, ((w1.alloc (.cells #[.int .i64 k, .string t, .int .i64 va, .int .i64 vb, .string vt, .int .i64 R, .slice xa xn xc] 65)).alloc (.cells #[.int .i64 k, .string t, .int .i64 va, .int .i64 vb, .string vt, .int .i64 R, .slice xa xn xc] 65)).drew = X := ⟨_, rfl⟩
    have E9 : Blk X P 65 #[.int .i64 k, .string t, .int .i64 va, .int .i64 vb, .string vt, .int .i64 R, .slice xa xn xc] := by subst hX; exact ((Blk.newAt11 hP).alloc _).gr ((Gr.refl _).drew)
    have E10 : Blk X P' 65 #[.int .i64 k, .string t, .int .i64 va, .int .i64 vb, .string vt, .int .i64 R, .slice xa xn xc] := by subst hX; exact (Blk.newAt11 (by simp; omega)).gr ((Gr.refl _).drew)
    have gX : Gr w1 X := by subst hX; exact (by repeat (with_reducible first | assumption | exact Gr.refl _ | apply Gr.alloc | apply Gr.drewN | apply Gr.drew | apply Gr.iter | (refine Gr.setCell ?_ (by simp) _) | (refine Gr.trans ?_ (by assumption))))
    rw [hP, hP', hX]
    have F2 := D2.gr gX; have F4 := D4.gr gX
    have zP : w.heap.size + 1 < P := by omega
    clear hX hP d2 f2 z2 d4 f4 z4
    have e9 := E9.cell; have ef9 := E9.frozen; have ez9 := E9.lt
    have e10 := E10.cell; have ef10 := E10.frozen; have ez10 := E10.lt
    have d2 := F2.cell; have f2 := F2.frozen; have z2 := F2.lt
    have d4 := F4.cell; have f4 := F4.frozen; have z4 := F4.lt
    have np1 : ¬ P = P' := by omega
    have np2 : ¬ P' = P := by omega
    have np3 : ¬ P = w.heap.size := by omega
    have np4 : ¬ P = w.heap.size + 1 := by omega
    have np5 : ¬ P' = w.heap.size := by omega
    have np6 : ¬ P' = w.heap.size + 1 := by omega
    have np7 : ¬ w.heap.size = P := by omega
    have np8 : ¬ w.heap.size + 1 = P := by omega
    have np9 : ¬ w.heap.size = P' := by omega
    have np10 : ¬ w.heap.size + 1 = P' := by omega
    go_wp2
    go_region
    go_wp2
    have hgX := Gr.trans hgw gX
    refine postAt ?_
    intro FW hFW
    have T1 : Blk FW (w.heap.size + 1) 65 #[.int .i64 k, .string t, .int .i64 va, .int .i64 vb, .string vt, .int .i64 n, .slice xa xn xc] := by
      subst hFW
      exact ((((F4.far (p := ⟨P', 5, none⟩) np10 (.int .i64 n)).far (p := ⟨P, 5, none⟩) np8 (.int .i64 (R - n))).set7M (.int .i64 k) (.string t) (.int .i64 va) (.int .i64 vb) (.string vt) (.int .i64 n) (.slice xa xn xc)).alloc _).gr ((Gr.refl _).drew)
    have T2 : Blk FW X.heap.size 65 #[.int .i64 k, .string t, .int .i64 va, .int .i64 vb, .string vt, .int .i64 (R - n), .slice xa xn xc] := by
      subst hFW
      exact (Blk.newAt11 (by simp)).gr ((Gr.refl _).drew)
    have gF : Gr w FW := by
      subst hFW
      exact ((gr7M ((hgX.setCell (by dsimp only; omega) _).setCell (by dsimp only; omega) _) (by omega) _ _ _ _ _ _ _).alloc _).drew
    clear hFW
    have y1 := T1.cell
    refine bodyPost_ret (v := .tuple #[.agg #[.int .i64 k, .string t, .int .i64 va, .int .i64 vb, .string vt, .int .i64 n, .slice xa xn xc], .slice (some ⟨X.heap.size, 0, none⟩) 1 1]) (by simp [results, Tryz.results70, go_sem, y1]; done) rfl ⟨_, rfl, ?_, fun b hb => (by have h := hgX.size; simp only [Value.ownBlock, Option.some.injEq] at hb; omega), gF⟩
    exact rd_op1 (o := ⟨k, t, ⟨va, vb, vt⟩, R - n, l⟩) T2 (ha.gr gF) s1 s2
set_option maxHeartbeats 8000000 in
theorem head11_text {ea : Nat → Addr} (t : ByteArray) (va vb : Int) (vt : ByteArray) (c : Int) (l : List Attr) (m : Nat) (sl : Value) (w0 w : World) (hE : Env ea w) (h0 : Gr w0 w) (ha : AtS w0 w sl l) (s1 : szS t) (s2 : szS vt) (hok : refuse ⟨1, t, ⟨va, vb, vt⟩, c, l⟩ = 0) (hm1 : 1 ≤ m) (hm2 : m < (runes t).length) (hat : l.length ≤ 1099511627776) :
    Calls Tryz.prog 70 #[opV ⟨1, t, ⟨va, vb, vt⟩, c, l⟩ sl, .int .i64 m] w fun e w' => ∃ v1 lv, e = .returned (.tuple #[opV ⟨1, textL ((runes t).take m), ep, 0, l⟩ v1, lv]) ∧ AtS w0 w' v1 l ∧ RdList (OpS w0) 7 w' lv [⟨1, textL ((runes t).drop m), ep, 0, l⟩] ∧ (∀ b, lv.ownBlock = some b → w.heap.size ≤ b) ∧ Gr w w' := by
  obtain ⟨xa, xn, xc, rfl⟩ := ha.sl
  dsimp only [opV]
  obtain ⟨k, hk⟩ : ∃ k : Int, k = 1 := ⟨_, rfl⟩
  obtain ⟨RR, hRR⟩ : ∃ RR, (runes t).length = RR := ⟨_, rfl⟩
  have hR : rlen ⟨1, t, ⟨va, vb, vt⟩, c, l⟩ = (RR : Int) := by rw [← hRR]; simp [rlen]
  have hv : brk t = t.size := (refuse_text hok).2.1
  obtain ⟨z1, z2⟩ := text_take_sz hv s1 m
  have HK := Lib.hid hok; clear hok
  have HM2 := Lib.hid hm2
  rw [hRR] at hm2
  have HR := Lib.hid hR; have HRR := Lib.hid hRR; clear hR hRR
  obtain ⟨A, hA⟩ : ∃ A, textL ((runes t).take m) = A := ⟨_, rfl⟩
  obtain ⟨B, hB⟩ : ∃ B, textL ((runes t).drop m) = B := ⟨_, rfl⟩
  rw [hA] at z1 ⊢
  rw [hB] at z2 ⊢
  have HAB := Lib.hid (And.intro hA hB); clear hA hB
  have n1 : ¬ (RR : Int) ≤ m := by omega
  have b2 := Blk.new w 65 #[.int .i64 1, .string t, .int .i64 va, .int .i64 vb, .string vt, .int .i64 c, .slice xa xn xc]
  clear hk
  go_enter Tryz.func70, Tryz.ntmps70
  go_wp2_with (first
    | (go_at_call 69; refine callsAt11 ?_; intro W hW; (have hgW : Gr w W := by (subst hW; exact (by repeat (with_reducible first | assumption | exact Gr.refl _ | apply Gr.alloc | apply Gr.drewN | apply Gr.drew | apply Gr.iter | (refine Gr.setCell ?_ (by simp) _) | (refine Gr.trans ?_ (by assumption)))))); (have B2 : Blk W w.heap.size 65 #[.int .i64 1, .string t, .int .i64 va, .int .i64 vb, .string vt, .int .i64 c, .slice xa xn xc] := by (subst hW; (repeat (with_reducible first | assumption | apply Blk.set | (apply Blk.far (hp := by simp; omega)) | apply Blk.alloc | apply Blk.drewN | apply Blk.drew | (apply Blk.gr (hg := by assumption)) | (apply Blk.kg (k := by assumption) (hne := by decide)))))); (have B4 : Blk W (w.heap.size + 1) 65 #[.int .i64 0, .string ⟨#[]⟩, .int .i64 0, .int .i64 0, .string ⟨#[]⟩, .int .i64 0, .slice none 0 0] := by (subst hW; exact Blk.newAt11 (by simp))); clear hW; refine (rlen_any 1 t va vb vt c _ l _ (RdAttrs.gr (ha.rd h0) hgW) s1).mono ?_; rw [HR.out]; rintro e w1 ⟨rfl, hg1⟩; have D2 := B2.gr hg1; have D4 := B4.gr hg1; have hgw := Gr.trans hgW hg1; have d2 := D2.cell; have f2 := D2.frozen; have z2 := D2.lt; have d4 := D4.cell; have f4 := D4.frozen; have z4 := D4.lt)
    | (go_at_call 113; refine (cut04_text t va vb vt c _ l _ (hE.gr hgw) (RdAttrs.gr (ha.rd h0) hgw) s1 s2 HK.out m hm1 HM2.out).mono ?_; rw [HAB.out.1, HAB.out.2]; rintro e w2 ⟨v1, v2, rfl, hO1, hO2, hg2⟩; obtain ⟨a1, n1', c1, rfl, -⟩ := hO1.sl; obtain ⟨a2, n2', c2, rfl, -⟩ := hO2.sl; dsimp only [opV, ep, es]))
  obtain ⟨P, hP⟩ : ∃ P, w2.heap.size = P := ⟨_, rfl⟩
  obtain ⟨P', hP'⟩ : ∃ P', P + 1 = P' := ⟨_, rfl⟩
  obtain ⟨X, hX⟩ : ∃ X, (w2.alloc (.cells #[.int .i64 1, .string A, .int .i64 0, .int .i64 0, .string ⟨#[]⟩, .int .i64 0, .slice a1 n1' c1] 65)).alloc (.cells #[.int .i64 1, .string B, .int .i64 0, .int .i64 0, .string ⟨#[]⟩, .int .i64 0, .slice a2 n2' c2] 65) = X := ⟨_, rfl⟩
  have E9 : Blk X P 65 #[.int .i64 1, .string A, .int .i64 0, .int .i64 0, .string ⟨#[]⟩, .int .i64 0, .slice a1 n1' c1] := by subst hX; exact (Blk.newAt11 hP).alloc _
  have E10 : Blk X P' 65 #[.int .i64 1, .string B, .int .i64 0, .int .i64 0, .string ⟨#[]⟩, .int .i64 0, .slice a2 n2' c2] := by subst hX; exact Blk.newAt11 (by simp; omega)
  have g2X : Gr w2 X := by subst hX; exact (by repeat (with_reducible first | assumption | exact Gr.refl _ | apply Gr.alloc | apply Gr.drewN | apply Gr.drew | apply Gr.iter | (refine Gr.setCell ?_ (by simp) _) | (refine Gr.trans ?_ (by assumption))))
  rw [hP, hP', hX]
  have F4 := (D4.gr hg2).gr g2X
  have hgX := Gr.trans hgw (Gr.trans hg2 g2X)
  have zP : w.heap.size + 1 < P := by have := (D4.gr hg2).lt; omega
  clear hX hP d2 f2 z2 d4 f4 z4
  have e9 := E9.cell; have ef9 := E9.frozen; have ez9 := E9.lt
  have e10 := E10.cell; have ef10 := E10.frozen; have ez10 := E10.lt
  have d4 := F4.cell; have f4 := F4.frozen; have z4 := F4.lt
  have np1 : ¬ P = P' := by omega
  have np4 : ¬ P = w.heap.size + 1 := by omega
  have np6 : ¬ P' = w.heap.size + 1 := by omega
  have np8 : ¬ w.heap.size + 1 = P := by omega
  have np10 : ¬ w.heap.size + 1 = P' := by omega
  have zb := D4.lt
  have HO := Lib.hid (And.intro (OwnL.gr (w := w2) (w' := X) hO1 (fun _ _ h => h) g2X) (And.intro (OwnL.gr (w := w2) (w' := X) hO2 (fun _ _ h => h) g2X) zb))
  clear hO1 hO2 zb
  go_wp2
  go_region
  go_wp2
  refine postAt ?_
  intro FW hFW
  have T1 : Blk FW (w.heap.size + 1) 65 #[.int .i64 1, .string A, .int .i64 0, .int .i64 0, .string ⟨#[]⟩, .int .i64 0, .slice a1 n1' c1] := by
    subst hFW
    exact ((F4.set7M (.int .i64 1) (.string A) (.int .i64 0) (.int .i64 0) (.string ⟨#[]⟩) (.int .i64 0) (.slice a1 n1' c1)).alloc _).gr ((Gr.refl _).drew)
  have T2 : Blk FW X.heap.size 65 #[.int .i64 1, .string B, .int .i64 0, .int .i64 0, .string ⟨#[]⟩, .int .i64 0, .slice a2 n2' c2] := by
    subst hFW
    exact (Blk.newAt11 (by simp)).gr ((Gr.refl _).drew)
  have gF : Gr w FW := by
    subst hFW
    exact ((gr7M hgX (by omega) _ _ _ _ _ _ _).alloc _).drew
  have A1 : OwnA FW (.slice a1 n1' c1) l := by
    subst hFW
    exact (OwnAL.rd (own7M HO.out.1 HO.out.2.2 (.int .i64 1) (.string A) (.int .i64 0) (.int .i64 0) (.string ⟨#[]⟩) (.int .i64 0) (.slice a1 n1' c1)) hat).gr (((Gr.refl _).alloc _).drew)
  have A2 : OwnA FW (.slice a2 n2' c2) l := by
    subst hFW
    exact (OwnAL.rd (own7M HO.out.2.1 HO.out.2.2 (.int .i64 1) (.string A) (.int .i64 0) (.int .i64 0) (.string ⟨#[]⟩) (.int .i64 0) (.slice a1 n1' c1)) hat).gr (((Gr.refl _).alloc _).drew)
  clear hFW
  have y1 := T1.cell
  refine bodyPost_ret (v := .tuple #[.agg #[.int .i64 1, .string A, .int .i64 0, .int .i64 0, .string ⟨#[]⟩, .int .i64 0, .slice a1 n1' c1], .slice (some ⟨X.heap.size, 0, none⟩) 1 1]) (by simp [results, Tryz.results70, go_sem, y1]; done) rfl ⟨_, _, rfl, .inr A1, ?_, fun b hb => (by have h := hgX.size; simp only [Value.ownBlock, Option.some.injEq] at hb; omega), gF⟩
  exact rd_op1 (o := ⟨1, B, ep, 0, l⟩) T2 (.inr A2) z2 (by simp only [szS]; decide)
theorem head11_any {ea : Nat → Addr} (o : Op) (n : Int) (sl : Value) (w0 w : World) (hE : Env ea w) (h0 : Gr w0 w) (ha : AtS w0 w sl o.attrs) (s1 : szS o.text) (s2 : szS o.val.text) (hok : checkOp o = 0 ∨ o = bigO) (hn : 1 ≤ n) (hat : o.attrs.length ≤ 1099511627776) :
    Calls Tryz.prog 70 #[opV o sl, .int .i64 n] w fun e w' => ∃ v1 lv, e = .returned (.tuple #[opV (headO o n).1 v1, lv]) ∧ AtS w0 w' v1 (headO o n).1.attrs ∧ szS (headO o n).1.text ∧ szS (headO o n).1.val.text ∧ RdList (OpS w0) 7 w' lv (headO o n).2 ∧ (lv = .slice none 0 0 ∨ (headO o n).2 ≠ []) ∧ (∀ b, lv.ownBlock = some b → w.heap.size ≤ b) ∧ Gr w w' := by
  by_cases hle : rlen o ≤ n
  · have e : headO o n = (o, []) := by unfold headO; rw [if_pos hle]
    rw [e]
    refine (head11_all o n sl w0 w h0 ha s1 hle).mono ?_
    rintro e w' ⟨rfl, hg⟩
    exact ⟨sl, .slice none 0 0, rfl, ha.gr hg, s1, s2, RdList.nil .., .inl rfl, by simp [Value.ownBlock], hg⟩
  · have e : headO o n = ((cutO o n).1, [(cutO o n).2]) := by unfold headO; rw [if_neg hle]
    rw [e]
    rcases hok with hok | rfl
    · have hk := ok_kind hok
      obtain ⟨k, t, ⟨va, vb, vt⟩, c, l⟩ := o
      simp only at ha s1 s2 hk hat
      rcases hk with rfl | rfl | rfl | rfl
      · have hh : hasOnly ⟨1, t, ⟨va, vb, vt⟩, c, l⟩ = true := by
          cases hh : hasOnly ⟨1, t, ⟨va, vb, vt⟩, c, l⟩ with
          | false => simp [checkOp, hh] at hok
          | true => rfl
        have hrf : refuse ⟨1, t, ⟨va, vb, vt⟩, c, l⟩ = 0 := by simpa [checkOp, hh] using hok
        have hv : brk t = t.size := (refuse_text hrf).2.1
        have hc : c = 0 ∧ (⟨va, vb, vt⟩ : Plain) = ep := by simpa [hasOnly] using hh
        obtain ⟨rfl, hep⟩ := hc
        have hl : rlen ⟨1, t, ⟨va, vb, vt⟩, 0, l⟩ = ((runes t).length : Int) := by simp [rlen]
        rw [hl] at hle
        obtain ⟨m, rfl⟩ : ∃ m : Nat, n = m := ⟨n.toNat, by omega⟩
        obtain ⟨z1, z2⟩ := text_take_sz hv s1 m
        have ec : cutO ⟨1, t, ⟨va, vb, vt⟩, 0, l⟩ (m : Int) = (⟨1, textL ((runes t).take m), ep, 0, l⟩, ⟨1, textL ((runes t).drop m), ep, 0, l⟩) := by
          unfold cutO; rw [if_pos rfl, hep]; rfl
        rw [ec]
        refine (head11_text t va vb vt 0 l m sl w0 w hE h0 ha s1 s2 hrf (by omega) (by omega) hat).mono ?_
        rintro e w' ⟨v1, lv, rfl, h1, h2, hbk, hg⟩
        exact ⟨v1, lv, rfl, h1, z1, by simp only [szS]; decide, h2, .inr (by simp), hbk, hg⟩
      · exact absurd (show rlen ⟨2, t, ⟨va, vb, vt⟩, c, l⟩ ≤ n by simp [rlen]; exact hn) hle
      · have hb := ok_count hok (.inl rfl)
        dsimp only at hb
        have ec : cutO ⟨3, t, ⟨va, vb, vt⟩, c, l⟩ n = (⟨3, t, ⟨va, vb, vt⟩, n, l⟩, ⟨3, t, ⟨va, vb, vt⟩, c - n, l⟩) := rfl
        rw [ec]
        have hl : rlen ⟨3, t, ⟨va, vb, vt⟩, c, l⟩ = c := by simp [rlen]
        rw [hl] at hle
        refine (head11_cnt 3 t va vb vt c l n sl w0 w h0 ha s1 s2 (.inl rfl) (by omega) hn (by omega)).mono ?_
        rintro e w' ⟨lv, rfl, h1, hbk, hg⟩
        exact ⟨sl, lv, rfl, ha.gr hg, s1, s2, h1, .inr (by simp), hbk, hg⟩
      · have hb := ok_count hok (.inr rfl)
        dsimp only at hb
        have ec : cutO ⟨4, t, ⟨va, vb, vt⟩, c, l⟩ n = (⟨4, t, ⟨va, vb, vt⟩, n, l⟩, ⟨4, t, ⟨va, vb, vt⟩, c - n, l⟩) := rfl
        rw [ec]
        have hl : rlen ⟨4, t, ⟨va, vb, vt⟩, c, l⟩ = c := by simp [rlen]
        rw [hl] at hle
        refine (head11_cnt 4 t va vb vt c l n sl w0 w h0 ha s1 s2 (.inr rfl) (by omega) hn (by omega)).mono ?_
        rintro e w' ⟨lv, rfl, h1, hbk, hg⟩
        exact ⟨sl, lv, rfl, ha.gr hg, s1, s2, h1, .inr (by simp), hbk, hg⟩
    · have ec : cutO bigO n = (⟨3, es, ep, n, []⟩, ⟨3, es, ep, 1125899906842624 - n, []⟩) := rfl
      rw [ec]
      have hl : rlen bigO = 1125899906842624 := by simp [rlen, bigO]
      rw [hl] at hle
      refine (head11_cnt 3 es 0 0 es 1125899906842624 [] n sl w0 w h0 ha (by simp only [szS]; decide) (by simp only [szS]; decide) (.inl rfl) (by omega) hn (by omega)).mono ?_
      rintro e w' ⟨lv, rfl, h1, hbk, hg⟩
      exact ⟨sl, lv, rfl, ha.gr hg, by simp only [szS]; decide, by simp only [szS]; decide, h1, .inr (by simp), hbk, hg⟩

end Ve
/- The reference of layer 11: what its loop holds; plain laws of its steps. -/
namespace Ve
open Go Go.RowKit Go.Proofs

theorem behind11_any (w0 : World) (lf l : List Op) (vf vl : Value) (w : World) (h0 : Gr w0 w) (hf : RdList (OpS w0) 7 w vf lf) (hnil : vf = .slice none 0 0 ∨ lf ≠ []) (hl1 : lf.length ≤ 1) (hl : RdList (OpS w0) 7 w vl l) (hne : l ≠ []) (hlen : l.length + 1 ≤ 1099511627776) :
    Calls Tryz.prog 72 #[vf, vl] w fun e w' => ∃ v', e = .returned v' ∧ RdList (OpS w0) 7 w' v' (lf ++ l.tail) ∧ (∀ b, v'.ownBlock = some b → vl.ownBlock = some b ∨ (w.heap.size ≤ b ∧ b < w'.heap.size)) ∧ Gr w w' := by
  cases lf with
  | nil =>
    obtain rfl := hnil.resolve_right (fun h => h rfl)
    refine (behind11_nil w0 l vl w hl hne 0).mono ?_
    rintro e w' ⟨v', rfl, h1, h2, hg⟩
    exact ⟨v', rfl, h1, fun b hb => .inl (h2 b hb), hg⟩
  | cons y r =>
    obtain rfl : r = [] := List.eq_nil_of_length_eq_zero (by simp only [List.length_cons] at hl1; omega)
    refine (behind11_one w0 y l vf vl w h0 hf hl hne hlen).mono ?_
    rintro e w' ⟨v', rfl, h1, h2, hg⟩
    exact ⟨v', rfl, h1, fun b hb => .inr (h2 b hb), hg⟩
theorem headO_len (o : Op) (n : Int) : (headO o n).2.length ≤ 1 := by
  unfold headO; split <;> simp
theorem head_next {p : Piece} {r : List Piece} {n : Int} (hp : pOk p) (h1 : 1 ≤ n) : (headO p.op n).1 = (nextP (p :: r) n).1.op ∧ (headO p.op n).2 ++ r.map Piece.op = (nextP (p :: r) n).2.map Piece.op := by
  have hl : rlen p.op = p.len := by rw [rlen_ok hp.1, hp.2]
  unfold headO
  simp only [nextP]
  rw [hl]
  by_cases c : p.len ≤ n
  · rw [if_pos c, if_pos c]; exact ⟨rfl, rfl⟩
  · rw [if_neg c, if_neg c]
    have hne : ∀ a t v, p ≠ .emb a t v := by
      rintro a t v rfl
      exact c (by simp only [Piece.len]; exact h1)
    obtain ⟨e1, e2⟩ := cut_op (n := n) hne
    exact ⟨e1, by rw [e2]; rfl⟩
theorem head_big {n : Int} (h1 : 1 ≤ n) (h2 : n ≤ 1099511627776) : (headO bigO n).1 = (nextP [] n).1.op ∧ (nextP [] n).2 = [] := by
  have hl : rlen bigO = 1125899906842624 := by simp [rlen, bigO]
  unfold headO
  rw [hl, if_neg (by omega)]
  refine ⟨?_, rfl⟩
  simp only [nextP]
  rw [show min n 1099511627776 = n by omega]
  rfl
theorem bothO_ops {p q : Piece} (h4 : p.k ≠ 4) (h3 : q.k = 3 ∨ q.k = 4) : bothO p.op q.op = bothP p q := by
  cases q with
  | ins a t n => simp [Piece.k] at h3
  | emb a t v => simp [Piece.k] at h3
  | del n =>
    cases p with
    | del m => exact absurd rfl h4
    | ret a m => rfl
    | ins a t m => rfl
    | emb a t v => rfl
  | ret l n =>
    cases p with
    | del m => exact absurd rfl h4
    | ret a m => rfl
    | ins a t m => rfl
    | emb a t v => rfl
theorem next_min {rs ts : List Piece} (hr : Can rs) (ht : Can ts) (hne : ¬ (rs = [] ∧ ts = [])) : min (rlen (nextO (rs.map Piece.op))) (rlen (nextO (ts.map Piece.op))) = min (leftP rs) (leftP ts) := by
  have hl : ∀ p : Piece, pOk p → rlen p.op = p.len := fun p hp => by rw [rlen_ok hp.1, hp.2]
  have hb : rlen bigO = 1125899906842624 := by simp [rlen, bigO]
  obtain ⟨r1, r2⟩ := hr.left
  obtain ⟨t1, t2⟩ := ht.left
  cases rs with
  | nil =>
    cases ts with
    | nil => exact absurd ⟨rfl, rfl⟩ hne
    | cons q ts =>
      simp only [List.map_nil, List.map_cons, nextO, leftP] at *
      rw [hb, hl q (ht.ok q (by simp))]
      omega
  | cons p rs =>
    cases ts with
    | nil =>
      simp only [List.map_nil, List.map_cons, nextO, leftP] at *
      rw [hb, hl p (hr.ok p (by simp))]
      omega
    | cons q ts =>
      simp only [List.map_cons, nextO, leftP] at *
      rw [hl p (hr.ok p (by simp)), hl q (ht.ok q (by simp))]
theorem OpS.kgO {S : Nat → Prop} {w0 w w' : World} {x : Op} {cs : List Value} (h : OpS w0 w x cs) (k : Kg S opT w w') : OpS w0 w' x cs := by
  obtain ⟨v, e, ha, hs⟩ := h
  exact ⟨v, e, ha.imp id fun h => ⟨OwnL.kg (R := AttrR) (w := w) (w' := w') (E := opT) h.1 (fun _ _ h => h) k (by decide), h.2⟩, hs⟩
/-- A list beside the row that grows. -/
theorem RdList.besO {w0 w w' : World} {ov v : Value} {l : List Op} (h : RdList (OpS w0) 7 w v l) (k : Kg (fun b => ov.ownBlock = some b) opT w w') (hne : ∀ b, v.ownBlock = some b → ov.ownBlock ≠ some b) : RdList (OpS w0) 7 w' v l := by
  obtain ⟨a, cap, xs, rfl, h1, h2, h3, h4, h5⟩ := h
  refine ⟨a, cap, xs, rfl, h1, h2, h3, h4.map fun _ _ h => OpS.kgO h k, fun hl => ?_⟩
  obtain ⟨b, off, rfl, hc⟩ := h5 hl
  refine ⟨b, off, rfl, fun j u hu => ?_⟩
  have hb := hc j u hu
  have hlt : b < w.heap.size := by
    apply Classical.byContradiction
    intro hge
    have : w.heap[b]? = none := Array.getElem?_eq_none (by omega)
    simp [World.cell?, this] at hb
  rw [World.cell?_of_block (k.blk b hlt (.inl (hne b (by simp [Value.ownBlock]))))]
  exact hb
/-- What the reference's Compose holds between two rounds. -/
theorem RdList.besN {w0 w w' : World} {ov v : Value} {l : List Op} (h : RdList (OpS w0) 7 w v l) (k : Kg (fun b => ov.ownBlock = some b) opT w w') (hne : l ≠ [] → ∀ b, v.ownBlock = some b → ov.ownBlock ≠ some b) : RdList (OpS w0) 7 w' v l := by
  by_cases e : l = []
  · subst e
    obtain ⟨a, cap, xs, hv, hc, hm, hb, hr, hx⟩ := h
    exact ⟨a, cap, xs, hv, hc, hm, hb, hr, fun h => absurd h (by simp)⟩
  · exact h.besO k (hne e)
/-- A list that is not empty has its block in the heap. -/
theorem RdList.low {α : Type} {R : World → α → List Value → Prop} {k : Nat} {w : World} {v : Value} {l : List α} (h : RdList R k w v l) (hk : 0 < k) (hne : l ≠ []) : ∀ b, v.ownBlock = some b → b < w.heap.size := by
  intro b hb
  obtain ⟨a, cap, hv, -⟩ := RdList.slice h
  subst hv
  have hpos : 0 < l.length := List.length_pos_iff.2 hne
  obtain ⟨b', off, x, cs, e, -, -, hl, hc⟩ := RdList.get h 0 hpos
  subst e
  have hu := hc 0 (cs[0]'(by omega)) hk (by rw [List.getElem?_eq_getElem])
  have := cell_lt hu
  simp [Value.ownBlock] at hb
  omega
structure CmR (w0 : World) (va vb ov : Value) (A B O : List Op) (w : World) : Prop where
  gr : Gr w0 w
  a : RdList (OpS w0) 7 w va A
  b : RdList (OpS w0) 7 w vb B
  na : A ≠ [] → ∀ b, va.ownBlock = some b → ov.ownBlock ≠ some b
  nb : B ≠ [] → ∀ b, vb.ownBlock = some b → ov.ownBlock ≠ some b
  la : A ≠ [] → ∀ b, va.ownBlock = some b → b < w.heap.size
  lb : B ≠ [] → ∀ b, vb.ownBlock = some b → b < w.heap.size
  o : OwnL (OpS w0) 7 w0.heap.size 65 w ov O
theorem RdList.grS {w0 w w' : World} {v : Value} {l : List Op} (h : RdList (OpS w0) 7 w v l) (g : Gr w w') : RdList (OpS w0) 7 w' v l := RdList.gr (w := w) h (fun _ _ h => OpS.gr h g) g
theorem CmR.to {w0 w w' : World} {va vb ov : Value} {A B O : List Op} (h : CmR w0 va vb ov A B O w) (g : Gr w w') : CmR w0 va vb ov A B O w' :=
  ⟨h.gr.trans g, h.a.grS g, h.b.grS g, h.na, h.nb, fun hn b hb => Nat.lt_of_lt_of_le (h.la hn b hb) g.size, fun hn b hb => Nat.lt_of_lt_of_le (h.lb hn b hb) g.size, OwnL.gr (w := w) h.o (fun _ _ h => OpS.gr h g) g⟩
/-- A list is appended; what else is left as it lies. -/
theorem CmR.addK {w0 w : World} {va vb ov x : Value} {A B O m : List Op} (h : CmR w0 va vb ov A B O w) (hx : RdList (OpS w0) 7 w x m) (ty : TypeId) (hm : O.length + m.length ≤ 1099511627776) :
    ∃ v' w', (Builtin.append_ #[22, 22] ty #[ov, x]).run Tryz.prog w = .ok v' w' ∧ CmR w0 va vb v' A B (O ++ m) w' ∧ (∃ x1 x2 x3, v' = .slice x1 x2 x3) ∧ Kg (fun b => ov.ownBlock = some b) opT w w' ∧ (∀ b, v'.ownBlock = some b → ov.ownBlock = some b ∨ b = w.heap.size) := by
  obtain ⟨h1, h2, h3, h4, h5, h6, h7, h8⟩ := h
  obtain ⟨v', w', r1, r2, r3, r4⟩ := app_opS w0 w w0.heap.size ty h8 hx hm h1.size
  have hlow := own_ltO h8
  have hz := r3.size
  obtain ⟨x1, x2, x3, e, -⟩ := r2.sl
  have hn : ∀ u : Value, (∀ b, u.ownBlock = some b → ov.ownBlock ≠ some b) → (∀ b, u.ownBlock = some b → b < w.heap.size) → ∀ b, u.ownBlock = some b → v'.ownBlock ≠ some b := fun u hu hlt b hb e' => by
    rcases r4 with h | h
    · rw [h] at e'; exact hu b hb e'
    · rw [h] at e'; injection e' with e'; have := hlt b hb; omega
  refine ⟨v', w', r1, ⟨h1.kgs r3 fun b hb => hlow b hb, h2.besN r3 h4, h3.besN r3 h5, fun hA => hn va (h4 hA) (h6 hA), fun hB => hn vb (h5 hB) (h7 hB), fun hA b hb => Nat.lt_of_lt_of_le (h6 hA b hb) hz, fun hB b hb => Nat.lt_of_lt_of_le (h7 hB b hb) hz, r2⟩, ⟨x1, x2, x3, e⟩, r3, fun b hb => ?_⟩
  rcases r4 with h | h
  · exact .inl (h ▸ hb)
  · rw [h] at hb; injection hb with hb; exact .inr hb.symm
/-- A list is appended. -/
theorem CmR.add {w0 w : World} {va vb ov x : Value} {A B O m : List Op} (h : CmR w0 va vb ov A B O w) (hx : RdList (OpS w0) 7 w x m) (ty : TypeId) (hm : O.length + m.length ≤ 1099511627776) :
    ∃ v' w', (Builtin.append_ #[22, 22] ty #[ov, x]).run Tryz.prog w = .ok v' w' ∧ CmR w0 va vb v' A B (O ++ m) w' ∧ ∃ x1 x2 x3, v' = .slice x1 x2 x3 := by
  obtain ⟨h1, h2, h3, h4, h5, h6, h7, h8⟩ := h
  obtain ⟨v', w', r1, r2, r3, r4⟩ := app_opS w0 w w0.heap.size ty h8 hx hm h1.size
  have hlow := own_ltO h8
  have hz := r3.size
  obtain ⟨x1, x2, x3, e, -⟩ := r2.sl
  have hn : ∀ u : Value, (∀ b, u.ownBlock = some b → ov.ownBlock ≠ some b) → (∀ b, u.ownBlock = some b → b < w.heap.size) → ∀ b, u.ownBlock = some b → v'.ownBlock ≠ some b := fun u hu hlt b hb e' => by
    rcases r4 with h | h
    · rw [h] at e'; exact hu b hb e'
    · rw [h] at e'; injection e' with e'; have := hlt b hb; omega
  exact ⟨v', w', r1, ⟨h1.kgs r3 fun b hb => hlow b hb, h2.besN r3 h4, h3.besN r3 h5, fun hA => hn va (h4 hA) (h6 hA), fun hB => hn vb (h5 hB) (h7 hB), fun hA b hb => Nat.lt_of_lt_of_le (h6 hA b hb) hz, fun hB b hb => Nat.lt_of_lt_of_le (h7 hB b hb) hz, r2⟩, x1, x2, x3, e⟩
theorem CmR.setB {w0 w : World} {va vb vb' ov : Value} {A B B' O : List Op} {H : Nat} (h : CmR w0 va vb ov A B O w) (hr : RdList (OpS w0) 7 w vb' B') (hne : B ≠ []) (hb : ∀ b, vb'.ownBlock = some b → vb.ownBlock = some b ∨ (H ≤ b ∧ b < w.heap.size)) (hH : ∀ b, ov.ownBlock = some b → b < H) : CmR w0 va vb' ov A B' O w :=
  ⟨h.gr, h.a, hr, h.na, fun _ b hb1 e => (hb b hb1).elim (fun h1 => h.nb hne b h1 e) fun h1 => by have := hH b e; omega, h.la, fun _ b hb1 => (hb b hb1).elim (fun h1 => h.lb hne b h1) fun h1 => h1.2, h.o⟩
theorem CmR.setA {w0 w : World} {va va' vb ov : Value} {A A' B O : List Op} {H : Nat} (h : CmR w0 va vb ov A B O w) (hr : RdList (OpS w0) 7 w va' A') (hne : A ≠ []) (hb : ∀ b, va'.ownBlock = some b → va.ownBlock = some b ∨ (H ≤ b ∧ b < w.heap.size)) (hH : ∀ b, ov.ownBlock = some b → b < H) : CmR w0 va' vb ov A' B O w :=
  ⟨h.gr, hr, h.b, fun _ b hb1 e => (hb b hb1).elim (fun h1 => h.na hne b h1 e) fun h1 => by have := hH b e; omega, h.nb, fun _ b hb1 => (hb b hb1).elim (fun h1 => h.la hne b h1) fun h1 => h1.2, h.lb, h.o⟩
theorem AtS.len {w0 w : World} {v : Value} {l : List Attr} (h : AtS w0 w v l) : l.length ≤ 1099511627776 := by
  rcases h with h | h
  · obtain ⟨_, _, _, _, _, h⟩ := RdList.slice h; exact h
  · exact h.2
theorem ok_attrs {p : Piece} (h : pOk p) : checkAttrs true p.attrs = 0 := by
  cases p with
  | ins a t m => exact check_weak (ins_ok.1 h).2.2.1
  | ret a m => exact (ret_ok.1 h).2.2
  | del m => rfl
  | emb a k v => exact check_weak (emb_attrs h.1)
theorem ok_rise {p : Piece} (h : pOk p) : riseA none p.attrs = true := by
  have h1 := ok_attrs h
  unfold checkAttrs at h1
  exact (check_iff.1 h1).2
end Ve
