import Derived.Test.YtnlpmajiccliiaaGreatDoorS3
import Derived.Laws.RangeAny
set_option linter.all false
/- Walks of the reference of layer 6: Insert, Len, Plain, push. -/
namespace Ve
open Go Go.RowKit Go.Proofs


set_option maxHeartbeats 400000 in
theorem same03_any (la lb : List Attr) (va vb : Value) (w : World) (ha : RdAttrs w va la) (hb : RdAttrs w vb lb) :
    Calls Tryz.prog 166 #[va, vb] w fun e w' => e = .returned (.bool (decide (la = lb))) ∧ Gr w w' := by
  obtain ⟨aa, n, ca, rfl, hla, hma, -, hna⟩ := ha.sl
  obtain ⟨ab, m, cb, rfl, hlb, hmb, -, hnb⟩ := hb.sl
  by_cases hlen : n = m
  · subst hlen
    go_enter Tryz.func166, Tryz.ntmps166
    go_wp2
    go_loopw [5, 13] (fun _ i wr => ∃ k : Nat, k ≤ n ∧ i = .int .i64 k ∧ Gr w wr ∧ la.take k = lb.take k) (fun _ i _ => n - (intOf i).toNat)
    case atStart => exact ⟨0, Nat.zero_le _, rfl, Gr.refl _, rfl⟩
    case round =>
      obtain ⟨k, hk, rfl, hg, ht⟩ := hrel
      have Ht := Lib.hid ht; clear ht
      by_cases hlt : k < n
      · obtain ⟨b1, o1, xk, xa, xb, xt, hx, rfl, a0, a1, a2, a3, -, -⟩ := (RdAttrs.gr ha hg).at_ k hlt
        obtain ⟨b2, o2, yk, ya, yb, yt, hy, rfl, c0, c1, c2, c3, -, -⟩ := (RdAttrs.gr hb hg).at_ k hlt
        have H := Lib.hid (And.intro hx hy); clear hx hy
        have hlt' : (k : Int) < n := by omega
        go_wp2
        go_quiet (fail)
        go_wp2
        · rename_i h
          have h := (eqA_eq ⟨xk, ⟨xa, xb, xt⟩⟩ ⟨yk, ⟨ya, yb, yt⟩⟩).symm.trans (show eqA xk xa xb xt yk ya yb yt = false by simpa using h)
          go_ret
          refine ⟨ret_bool ?_, (by repeat (with_reducible first | assumption | exact Gr.refl _ | apply Gr.alloc | apply Gr.drewN | apply Gr.drew | apply Gr.iter | (refine Gr.setCell ?_ (by simp) _) | (refine Gr.trans ?_ (by assumption))))⟩
          obtain ⟨hx, hy⟩ := H.out
          simp only [decide_eq_false_iff_not] at h
          simp only [Bool.false_eq, decide_eq_false_iff_not]
          intro e
          subst e
          exact h (Option.some.inj (hx.symm.trans hy))
        · rename_i h
          have h := (eqA_eq ⟨xk, ⟨xa, xb, xt⟩⟩ ⟨yk, ⟨ya, yb, yt⟩⟩).symm.trans (show eqA xk xa xb xt yk ya yb yt = true by simpa using h)
          have h := Lib.hid (of_decide_eq_true h)
          go_roundw
          case rel =>
            obtain ⟨hx, hy⟩ := H.out
            refine ⟨k + 1, by omega, by go_num, (by repeat (with_reducible first | assumption | exact Gr.refl _ | apply Gr.alloc | apply Gr.drewN | apply Gr.drew | apply Gr.iter | (refine Gr.setCell ?_ (by simp) _) | (refine Gr.trans ?_ (by assumption)))), ?_⟩
            rw [List.take_succ, List.take_succ, Ht.out, hx, hy, h.out]
          case measure => simp [intOf]; omega
      · obtain rfl : k = n := by omega
        go_wp2
        go_ret
        refine ⟨ret_bool ?_, (by repeat (with_reducible first | assumption | exact Gr.refl _ | apply Gr.alloc | apply Gr.drewN | apply Gr.drew | apply Gr.iter | (refine Gr.setCell ?_ (by simp) _) | (refine Gr.trans ?_ (by assumption))))⟩
        have ht := Ht.out
        have e1 := hna.out
        have e2 := hnb.out
        rw [List.take_of_length_le (by omega), List.take_of_length_le (by omega)] at ht
        simp [ht]
  · go_enter Tryz.func166, Tryz.ntmps166
    go_wp2
    go_ret
    exact ⟨ret_bool (by have e1 := hna.out; have e2 := hnb.out; simp; rintro rfl; omega), Gr.refl _⟩

theorem blkOne (w : World) (e1 : TypeId) (c1 : Array Value) : ∃ W, w.alloc (.cells c1 e1) = W ∧ Blk W w.heap.size e1 c1 ∧ Gr w W := ⟨_, rfl, Blk.new _ _ _, (Gr.refl w).alloc _⟩

set_option maxHeartbeats 1000000 in
theorem insert06_any (k : Int) (t : ByteArray) (va vb : Int) (vt : ByteArray) (c : Int) (sl : Value) (l : List Attr) (w : World) (hl : RdAttrs w sl l) :
    Calls Tryz.prog 134 #[.agg #[.int .i64 k, .string t, .int .i64 va, .int .i64 vb, .string vt, .int .i64 c, sl]] w fun e w' => e = .returned (.bool (isIns ⟨k, t, ⟨va, vb, vt⟩, c, l⟩)) ∧ Gr w w' := by
  obtain ⟨a, cap, rfl, -⟩ := hl.slice
  by_cases hk : k = 1 ∨ k = 2
  · rcases hk with rfl | rfl
    · go_enter Tryz.func134, Tryz.ntmps134
      go_wp2
      go_ret
      exact ⟨rfl, (by repeat (with_reducible first | assumption | exact Gr.refl _ | apply Gr.alloc | apply Gr.drewN | apply Gr.drew | apply Gr.iter | (refine Gr.setCell ?_ (by simp) _) | (refine Gr.trans ?_ (by assumption))))⟩
    · go_enter Tryz.func134, Tryz.ntmps134
      go_wp2
      go_ret
      exact ⟨rfl, (by repeat (with_reducible first | assumption | exact Gr.refl _ | apply Gr.alloc | apply Gr.drewN | apply Gr.drew | apply Gr.iter | (refine Gr.setCell ?_ (by simp) _) | (refine Gr.trans ?_ (by assumption))))⟩
  · have k1 : (k == 1) = false := by simp; omega
    have k2 : (k == 2) = false := by simp; omega
    go_enter Tryz.func134, Tryz.ntmps134
    go_wp2
    go_ret
    refine ⟨ret_bool ?_, (by repeat (with_reducible first | assumption | exact Gr.refl _ | apply Gr.alloc | apply Gr.drewN | apply Gr.drew | apply Gr.iter | (refine Gr.setCell ?_ (by simp) _) | (refine Gr.trans ?_ (by assumption))))⟩
    simp [isIns, k1, k2]


set_option maxHeartbeats 1000000 in
theorem plain06_any (k : Int) (t : ByteArray) (va vb : Int) (vt : ByteArray) (c : Int) (sl : Value) (l : List Attr) (w : World) (hl : RdAttrs w sl l) :
    Calls Tryz.prog 142 #[.agg #[.int .i64 k, .string t, .int .i64 va, .int .i64 vb, .string vt, .int .i64 c, sl]] w fun e w' => e = .returned (.bool (plainO ⟨k, t, ⟨va, vb, vt⟩, c, l⟩)) ∧ Gr w w' := by
  obtain ⟨a, n, cap, rfl, -, -, -, hn⟩ := hl.sl
  by_cases hk : k = 3
  · subst hk
    go_enter Tryz.func142, Tryz.ntmps142
    go_wp2
    go_ret
    refine ⟨ret_bool ?_, (by repeat (with_reducible first | assumption | exact Gr.refl _ | apply Gr.alloc | apply Gr.drewN | apply Gr.drew | apply Gr.iter | (refine Gr.setCell ?_ (by simp) _) | (refine Gr.trans ?_ (by assumption))))⟩
    have := hn.out
    subst this
    rw [Bool.eq_iff_iff]
    simp [plainO]
  · have k1 : (k == 3) = false := by simpa using hk
    go_enter Tryz.func142, Tryz.ntmps142
    go_wp2
    go_ret
    refine ⟨ret_bool ?_, (by repeat (with_reducible first | assumption | exact Gr.refl _ | apply Gr.alloc | apply Gr.drewN | apply Gr.drew | apply Gr.iter | (refine Gr.setCell ?_ (by simp) _) | (refine Gr.trans ?_ (by assumption))))⟩
    simp [plainO, k1]

/-- What vellumref06.Len answers. -/
def len06 (o : Op) : Int := if o.kind = 1 then Lib.runeCount o.text else if o.kind = 2 then 1 else o.count
set_option maxRecDepth 20000 in
set_option maxHeartbeats 1000000 in
theorem len06_any (k : Int) (t : ByteArray) (va vb : Int) (vt : ByteArray) (c : Int) (sl : Value) (l : List Attr) (w : World) (hl : RdAttrs w sl l) (ht : szS t) :
    Calls Tryz.prog 133 #[.agg #[.int .i64 k, .string t, .int .i64 va, .int .i64 vb, .string vt, .int .i64 c, sl]] w fun e w' => e = .returned (.int .i64 (len06 ⟨k, t, ⟨va, vb, vt⟩, c, l⟩)) ∧ Gr w w' := by
  obtain ⟨a, cap, rfl, -⟩ := hl.slice
  have ht40 := ht.le40
  by_cases hk : k = 1
  · subst hk
    have hrc := Lib.runeCount_le t
    go_enter Tryz.func133, Tryz.ntmps133
    go_wp2
    obtain ⟨W, hW, B1, hg⟩ := blkOne w 65 #[.int .i64 1, .string t, .int .i64 va, .int .i64 vb, .string vt, .int .i64 c, .slice a l.length cap]
    rw [hW]
    have hz : W.heap.size = w.heap.size + 1 := by rw [← hW]; simp
    have HW := Lib.hid hW; clear hW
    have HZ := Lib.hid hz; clear hz
    go_loopw [3] (fun x wr => ∃ (p b m : Nat), wr = W.iter t p ∧ x = .int .i64 m ∧ m + Lib.runeCountFrom t b p = Lib.runeCount t ∧ t.size ≤ p + b) (fun _ wr => t.size - wr.iterPos W.heap.size)
    case atStart => exact ⟨0, t.size, 0, rfl, rfl, by rw [Nat.zero_add]; rfl, by omega⟩
    case round =>
      obtain ⟨p, b, m, rfl, rfl, hc, hb⟩ := hrel
      have Hc := Lib.hid hc
      by_cases hp : p < t.size
      · have hwd := Lib.decode_width_pos t p hp
        obtain ⟨D, hD⟩ : ∃ D, Utf8.decode t p = D := ⟨_, rfl⟩
        rw [hD] at hwd
        obtain ⟨b, rfl⟩ : ∃ q, b = q + 1 := ⟨b - 1, by omega⟩
        have hst : Lib.runeCountFrom t (b + 1) p = 1 + Lib.runeCountFrom t b (p + D.2) := by rw [← hD]; simp [Lib.runeCountFrom, hp]
        rw [hst] at hc
        have hnx : ∀ ty, (Instr.next (.pointer (some ⟨w.heap.size + 1, 0, none⟩)) true ty).run Tryz.prog (W.iter t p) = .ok (.tuple #[.bool true, .int .i64 p, .int .i32 D.1]) (W.iter t (p + D.2)) := fun ty => by rw [← HZ.out, run_next_any W t p ty hp, hD]
        clear hD hst
        go_wp2
        go_roundw
        case rel => exact ⟨p + D.2, b, m + 1, rfl, by go_num, by omega, by omega⟩
        case measure => simp; omega
      · have hnx0 : ∀ ty, (Instr.next (.pointer (some ⟨W.heap.size, 0, none⟩)) true ty).run Tryz.prog (W.iter t p) = _ := fun ty => run_next_end W t p ty hp
        rw [HZ.out] at hnx0
        rw [Lib.runeCountFrom_end t b p hp, Nat.add_zero] at hc
        subst hc
        go_wp2
        go_ret
        exact ⟨rfl, hg.trans ((Gr.refl W).iter _ _)⟩
  · have k1 : (k == 1) = false := by simpa using hk
    by_cases hk2 : k = 2
    · subst hk2
      go_enter Tryz.func133, Tryz.ntmps133
      go_wp2
      go_ret
      exact ⟨rfl, (by repeat (with_reducible first | assumption | exact Gr.refl _ | apply Gr.alloc | apply Gr.drewN | apply Gr.drew | apply Gr.iter | (refine Gr.setCell ?_ (by simp) _) | (refine Gr.trans ?_ (by assumption))))⟩
    · have k2 : (k == 2) = false := by simpa using hk2
      go_enter Tryz.func133, Tryz.ntmps133
      go_wp2
      go_ret
      refine ⟨ret_int ?_, (by repeat (with_reducible first | assumption | exact Gr.refl _ | apply Gr.alloc | apply Gr.drewN | apply Gr.drew | apply Gr.iter | (refine Gr.setCell ?_ (by simp) _) | (refine Gr.trans ?_ (by assumption))))⟩
      simp only [len06]
      rw [if_neg hk, if_neg hk2]

end Ve
/- Walks of the reference of layer 6: push. -/
namespace Ve
open Go Go.RowKit Go.Proofs

def csum (l : List Op) : Int := (l.map (·.count)).sum
theorem csum_app (l m : List Op) : csum (l ++ m) = csum l + csum m := by simp [csum]
theorem opsum_app (l m : List Op) : opsum (l ++ m) = opsum l + opsum m := by simp [opsum]
theorem csum_one (o : Op) : csum [o] = o.count := by simp [csum]
theorem opsum_one (o : Op) : opsum [o] = o.text.size := by simp [opsum]
theorem csum_two (o q : Op) : csum [o, q] = o.count + q.count := by simp [csum]
theorem opsum_two (o q : Op) : opsum [o, q] = o.text.size + q.text.size := by simp [opsum]
theorem push06_facts (O : List Op) (o : Op) : opsum (push06 O o) = opsum O + o.text.size ∧ csum (push06 O o) = csum O + o.count ∧ (push06 O o).length ≤ O.length + 1 ∧
    ((∀ q ∈ O, 0 ≤ q.count) → 0 ≤ o.count → ∀ q ∈ push06 O o, 0 ≤ q.count) := by
  rcases snoc_ops O with rfl | ⟨m, q, rfl⟩
  · rw [push06_nil]
    exact ⟨by simp [opsum], by simp [csum], by simp, fun _ h x hx => by rw [List.mem_singleton.1 hx]; exact h⟩
  · rw [push06_snoc]
    by_cases c : q.kind ≠ o.kind ∨ o.kind = 2 ∨ q.attrs ≠ o.attrs
    · rw [if_pos c]
      refine ⟨by rw [opsum_app, opsum_app, opsum_two, opsum_one]; omega, by rw [csum_app, csum_app, csum_two, csum_one]; omega, by simp, fun h h0 x hx => ?_⟩
      simp only [List.mem_append, List.mem_cons, List.mem_nil_iff, or_false] at hx
      rcases hx with hx | rfl | rfl
      · exact h x (by simp [hx])
      · exact h x (by simp)
      · exact h0
    · rw [if_neg c]
      refine ⟨by rw [opsum_app, opsum_app, opsum_one, opsum_one, ByteArray.size_append]; omega, by rw [csum_app, csum_app, csum_one, csum_one]; simp only; omega, by simp, fun h h0 x hx => ?_⟩
      simp only [List.mem_append, List.mem_singleton] at hx
      rcases hx with hx | rfl
      · exact h x (by simp [hx])
      · have := h q (by simp); simp only; omega
theorem csum_nn {l : List Op} (h : ∀ q ∈ l, 0 ≤ q.count) : 0 ≤ csum l := by
  induction l with
  | nil => simp [csum]
  | cons x l ih =>
    have h1 := ih fun q hq => h q (by simp [hq])
    have h2 := h x (by simp)
    have e : csum (x :: l) = x.count + csum l := by simp [csum]
    omega
def opT (t : TypeId) : Bool := t == 65
/-- An operation's cells, its attributes lying in the call's first world. -/
abbrev OpC (w0 : World) : World → Op → List Value → Prop := fun _ x cs => OpR w0 x cs
abbrev OwnR (base : Nat) (w0 w : World) (v : Value) (l : List Op) : Prop := OwnL (OpC w0) 7 base 65 w v l
theorem OwnR.gr {base : Nat} {w0 w w' : World} {v : Value} {l : List Op} (h : OwnR base w0 w v l) (k : Gr w w') : OwnR base w0 w' v l := OwnL.gr (w := w) h (fun _ _ h => h) k
theorem OwnL.kgs {α : Type} {R : World → α → List Value → Prop} {k base : Nat} {S : Nat → Prop} {e : TypeId} {E : TypeId → Bool} {w w' : World} {v : Value} {l : List α} (h : OwnL R k base e w v l) (hR : ∀ x cs, R w x cs → R w' x cs) (hg : Kg S E w w') (hn : ∀ b, v.ownBlock = some b → ¬ S b) : OwnL R k base e w' v l := by
  obtain ⟨xs, ⟨h1, h2⟩, hr⟩ := h
  refine ⟨xs, ⟨h1, ?_⟩, hr.map hR⟩
  rcases h2 with h2 | ⟨g, cap, cur, rfl, e2, e3, rest⟩
  · exact .inl h2
  · exact .inr ⟨g, cap, cur, rfl, e2, (hg.blk g (Array.getElem?_eq_some_iff.1 e3).1 (.inl (hn g rfl))).trans e3, rest⟩
theorem OwnR.kgs {base : Nat} {S : Nat → Prop} {E : TypeId → Bool} {w0 w w' : World} {v : Value} {l : List Op} (h : OwnR base w0 w v l) (hg : Kg S E w w') (hn : ∀ b, v.ownBlock = some b → ¬ S b) : OwnR base w0 w' v l := OwnL.kgs h (fun _ _ h => h) hg hn
theorem OwnR.rd {base : Nat} {w0 w : World} {v : Value} {l : List Op} (h : OwnR base w0 w v l) (hg : Gr w0 w) (hb : l.length ≤ 1099511627776) : RdOps w v l := (OwnL.rd h hb).weak fun _ _ h => h.gr hg
theorem OwnL.lt_ {α : Type} {R : World → α → List Value → Prop} {k base : Nat} {e : TypeId} {w : World} {v : Value} {l : List α} (h : OwnL R k base e w v l) : ∀ b, v.ownBlock = some b → base ≤ b ∧ b < w.heap.size := by
  obtain ⟨xs, ho, -⟩ := h
  intro b hb
  exact ⟨own_fr ho b hb, (ho.lt b hb).2⟩
/-- The last operation's cells. -/
theorem OwnR.last {base : Nat} {w0 w : World} {v : Value} {m : List Op} {q : Op} (h : OwnR base w0 w v (m ++ [q])) :
    ∃ g cap xs qs, v = .slice (some ⟨g, 0, none⟩) (m.length + 1) cap ∧ m.length + 1 ≤ cap ∧ cap ≤ 9223372036854775807 ∧ w.ownsRow base 65 7 v (m.length + 1) xs ∧ RdAttrs w0 qs q.attrs ∧ szS q.text ∧ szS q.val.text ∧ g < w.heap.size ∧
      (∀ o, w.frozen? ⟨g, o, none⟩ = false) ∧ w.cell? ⟨g, m.length * 7, none⟩ = some (.int .i64 q.kind) ∧ w.cell? ⟨g, m.length * 7 + 1, none⟩ = some (.string q.text) ∧ w.cell? ⟨g, m.length * 7 + 5, none⟩ = some (.int .i64 q.count) ∧ w.cell? ⟨g, m.length * 7 + 6, none⟩ = some qs ∧
      RowsR (OpC w0) 7 w (m ++ [q]) xs := by
  obtain ⟨xs, ho, hr⟩ := h
  obtain ⟨x, cs, hx, ⟨qs, rfl, hqa, hs1, hs2⟩, -, hc⟩ := hr.get m.length (by simp)
  simp at hx
  subst hx
  rw [List.length_append, List.length_singleton] at ho
  rcases ho.2 with ⟨e, h0⟩ | ⟨g, cap, cur, rfl, hb, hh, hcap, hmx, hsz, ht⟩
  · omega
  · have key : ∀ j u, j < 7 → [Value.int .i64 q.kind, .string q.text, .int .i64 q.val.kind, .int .i64 q.val.num, .string q.val.text, .int .i64 q.count, qs][j]? = some u → w.cell? ⟨g, m.length * 7 + j, none⟩ = some u := by
      intro j u hj hu
      have h2 := (hc j hj).trans hu
      rw [← ht, List.getElem?_take, if_pos (by omega)] at h2
      simp only [World.cell?, hh]
      simpa using h2
    refine ⟨g, cap, xs, qs, rfl, hcap, by unfold maxLen at hmx; omega, ho, hqa, hs1, hs2, (Array.getElem?_eq_some_iff.1 hh).1, fun o => by simp [World.frozen?, hh], ?_, key 1 _ (by omega) rfl, key 5 _ (by omega) rfl, key 6 _ (by omega) rfl, hr⟩
    have := key 0 _ (by omega) rfl
    simpa using this
theorem push_opR (w : World) (base : Nat) (w0 : World) (ty : TypeId) {v : Value} {l : List Op} (o : Op) (sl : Value) (hown : OwnR base w0 w v l) (hx : RdAttrs w0 sl o.attrs) (h1 : szS o.text) (h2 : szS o.val.text) (hm : l.length + 1 ≤ 1099511627776) (hb : base ≤ w.heap.size) :
    ∃ v' w', (Builtin.append_ #[22, 22] ty #[v, .slice (some ⟨w.heap.size, 0, none⟩) 1 1]).run Tryz.prog (w.alloc (.cells #[.int .i64 o.kind, .string o.text, .int .i64 o.val.kind, .int .i64 o.val.num, .string o.val.text, .int .i64 o.count, sl] 65)) = .ok v' w' ∧ OwnR base w0 w' v' (l ++ [o]) ∧
      Kg (fun b => v.ownBlock = some b) opT w w' ∧ ∀ b, v'.ownBlock = some b → v.ownBlock = some b ∨ w.heap.size ≤ b := by
  obtain ⟨v', w', r1, r2, r3, r4, r5, r6, r7⟩ := run_push (P := Tryz.prog) (R := OpC w0) w base 22 ty 65 _ 7 88 Tryz.underlying22 info_op rfl (by omega) (by omega) (fun _ x cs h => OpR.flat w0 x cs h) (fun _ _ _ _ _ h => h) hown (x := o) (cs := [.int .i64 o.kind, .string o.text, .int .i64 o.val.kind, .int .i64 o.val.num, .string o.val.text, .int .i64 o.count, sl]) ⟨sl, rfl, hx, h1, h2⟩ rfl hm hb
  obtain ⟨xs, ho, hr⟩ := hown
  exact ⟨v', w', r1, r2, Kg.of_own_alloc ho (by decide) (fun b h => h) r3, r7⟩
/-- Text and count of the last operation put anew. -/
theorem RowsR.setOp {w0 w : World} {q q' : Op} : ∀ {m : List Op} {xs : List Value}, RowsR (OpC w0) 7 w (m ++ [q]) xs → q'.kind = q.kind → q'.val = q.val → q'.attrs = q.attrs → szS q'.text →
    RowsR (OpC w0) 7 w (m ++ [q']) ((xs.set (m.length * 7 + 1) (.string q'.text)).set (m.length * 7 + 5) (.int .i64 q'.count)) := by
  intro m
  induction m with
  | nil =>
    intro xs h h1 h2 h3 h4
    obtain ⟨cs, rest, rfl, hk, ⟨sl, rfl, hr, s1, s2⟩, hrest⟩ := h
    have hn : rest = [] := hrest
    subst hn
    exact ⟨[.int .i64 q'.kind, .string q'.text, .int .i64 q'.val.kind, .int .i64 q'.val.num, .string q'.val.text, .int .i64 q'.count, sl], [], by simp [h1, h2], rfl, ⟨sl, rfl, by rw [h3]; exact hr, h4, by rw [h2]; exact s2⟩, rfl⟩
  | cons x m ih =>
    intro xs h h1 h2 h3 h4
    obtain ⟨cs, rest, rfl, hk, hx, hr⟩ := h
    have i1 := ih hr h1 h2 h3 h4
    refine ⟨cs, _, ?_, hk, hx, i1⟩
    rw [List.length_cons, List.set_append_right _ _ (by omega), List.set_append_right _ _ (by omega), hk]
    congr 2
    · congr 1; omega
    · omega

set_option maxRecDepth 20000 in
set_option maxHeartbeats 4000000 in
theorem push06_nil0 (base : Nat) (w0 : World)  (v : Value) (k : Int) (t : ByteArray) (va vb : Int) (vt : ByteArray) (c : Int) (sl : Value) (l : List Attr) (w : World) (h0 : Gr w0 w) (hO : OwnR base w0 w v []) (hl : RdAttrs w0 sl l) (ht : szS t) (hvt : szS vt)
    (hb : base ≤ w.heap.size) (hb0 : w0.heap.size ≤ base) (hm : ([] : List Op).length + 1 ≤ 1099511627776) :
    Calls Tryz.prog 141 #[v, .agg #[.int .i64 k, .string t, .int .i64 va, .int .i64 vb, .string vt, .int .i64 c, sl]] w fun e w' => ∃ v', e = .returned v' ∧ OwnR base w0 w' v' ([⟨k, t, ⟨va, vb, vt⟩, c, l⟩]) ∧
      Kg (fun b => v.ownBlock = some b) opT w w' ∧ ∀ b, v'.ownBlock = some b → v.ownBlock = some b ∨ w.heap.size ≤ b := by
  obtain ⟨a, n, cap, rfl, -, -, -, hln⟩ := hl.sl
  obtain ⟨oa, on, oc, rfl, -, -, hon⟩ := hO.sl
  have e0 : on = 0 := hon.out.symm
  subst e0
  have HO := Lib.hid hO; clear hO
  go_enter Tryz.func141, Tryz.ntmps141
  go_wp2
  obtain ⟨W, hW, B1, hg⟩ := blkOne w 65 #[.int .i64 k, .string t, .int .i64 va, .int .i64 vb, .string vt, .int .i64 c, .slice a n cap]
  have hWz : W.heap.size = w.heap.size + 1 := by rw [← hW]; simp
  have d0 := B1.cell 0; have d1 := B1.cell 1; have d2 := B1.cell 2; have d3 := B1.cell 3; have d4 := B1.cell 4; have d5 := B1.cell 5; have d6 := B1.cell 6
  simp at d0 d1 d2 d3 d4 d5 d6
  rw [hW]
  have HW := Lib.hid hW; clear hW
  go_quiet (fail)
  obtain ⟨w3, hw3⟩ : ∃ w3, W.drewN nq = w3 := ⟨_, rfl⟩
  rw [hw3]
  have hg3 : Gr W w3 := hw3 ▸ (Gr.refl W).drewN nq
  clear hw3
  obtain ⟨v', w', hrun, hown, hk, hv'⟩ := push_opR w3 base w0 22 ⟨k, t, ⟨va, vb, vt⟩, c, l⟩ _ (OwnR.gr HO.out (hg.trans hg3)) hl ht hvt hm (Nat.le_trans hb (hg.trans hg3).size)
  have HP := Lib.hid (And.intro hrun (And.intro hown (And.intro hk hv'))); clear hrun hown hk hv'
  have x0 := hg3.cell d0; have x1 := hg3.cell d1; have x2 := hg3.cell d2; have x3 := hg3.cell d3; have x4 := hg3.cell d4; have x5 := hg3.cell d5; have x6 := hg3.cell d6
  have hz3 := hg3.size
  go_wp2_with (at_builtin; refine wpList_run rfl _ _ _ rfl rfl rfl HP.out.1 ?_)
  go_ret
  refine ⟨_, rfl, HP.out.2.1, (Kg.of_gr (hg.trans hg3)).trans HP.out.2.2.1, fun b h => (HP.out.2.2.2 b h).imp id fun h => Nat.le_trans (hg.trans hg3).size h⟩
set_option maxRecDepth 20000 in
set_option maxHeartbeats 4000000 in
theorem push06_kind (base : Nat) (w0 : World) (m : List Op) (q : Op) (v : Value) (k : Int) (t : ByteArray) (va vb : Int) (vt : ByteArray) (c : Int) (sl : Value) (l : List Attr) (w : World) (h0 : Gr w0 w) (hO : OwnR base w0 w v (m ++ [q])) (hl : RdAttrs w0 sl l) (ht : szS t) (hvt : szS vt)
    (hb : base ≤ w.heap.size) (hb0 : w0.heap.size ≤ base) (hm : (m ++ [q]).length + 1 ≤ 1099511627776) (hk : q.kind ≠ k) :
    Calls Tryz.prog 141 #[v, .agg #[.int .i64 k, .string t, .int .i64 va, .int .i64 vb, .string vt, .int .i64 c, sl]] w fun e w' => ∃ v', e = .returned v' ∧ OwnR base w0 w' v' (m ++ [q, ⟨k, t, ⟨va, vb, vt⟩, c, l⟩]) ∧
      Kg (fun b => v.ownBlock = some b) opT w w' ∧ ∀ b, v'.ownBlock = some b → v.ownBlock = some b ∨ w.heap.size ≤ b := by
  obtain ⟨a, n, cap, rfl, -, -, -, hln⟩ := hl.sl
  obtain ⟨g, gcap, xs, qs, rfl, hc1, hc2, ho, hqa, hs1, hs2, hgl, hfz, e0, e1, e5, e6, hr⟩ := hO.last
  obtain ⟨qk, qt, qv, qc, qats⟩ := q
  simp only at hqa hs1 hs2 e0 e1 e5 e6 hk
  have HO := Lib.hid hO; clear hO
  obtain ⟨qa, qn, qcap, rfl, -, -, -, hqn⟩ := hqa.sl
  have HR := Lib.hid (And.intro ho hr); clear ho hr
  have hml : m.length ≤ 1099511627776 := by simp at hm; omega
  have hwm : IntKind.i64.wrap (m.length : Int) = m.length := IntWalk.i64_in _ (by omega)
  have hlm : (m.length : Int) < (m.length : Int) + 1 := by omega
  have g0 : ((m.length : Int) + 1 == 0) = false := by simp; omega
  have hk' : (qk == k) = false := by simpa using hk
  have g1 : (qk != k) = true := by simpa using hk
  clear hk
  go_enter Tryz.func141, Tryz.ntmps141
  go_wp2
  obtain ⟨W, hW, B1, hg⟩ := blkOne w 65 #[.int .i64 k, .string t, .int .i64 va, .int .i64 vb, .string vt, .int .i64 c, .slice a n cap]
  have hWz : W.heap.size = w.heap.size + 1 := by rw [← hW]; simp
  have d0 := B1.cell 0; have d1 := B1.cell 1; have d2 := B1.cell 2; have d3 := B1.cell 3; have d4 := B1.cell 4; have d5 := B1.cell 5; have d6 := B1.cell 6
  simp at d0 d1 d2 d3 d4 d5 d6
  rw [hW]
  have HW := Lib.hid hW; clear hW
  have c0 := hg.cell e0; have c1 := hg.cell e1; have c5 := hg.cell e5; have c6 := hg.cell e6
  go_quiet (fail)
  obtain ⟨w3, hw3⟩ : ∃ w3, W.drewN nq = w3 := ⟨_, rfl⟩
  rw [hw3]
  have hg3 : Gr W w3 := hw3 ▸ (Gr.refl W).drewN nq
  clear hw3
  obtain ⟨v', w', hrun, hown, hk, hv'⟩ := push_opR w3 base w0 22 ⟨k, t, ⟨va, vb, vt⟩, c, l⟩ _ (OwnR.gr HO.out (hg.trans hg3)) hl ht hvt hm (Nat.le_trans hb (hg.trans hg3).size)
  have HP := Lib.hid (And.intro hrun (And.intro hown (And.intro hk hv'))); clear hrun hown hk hv'
  have x0 := hg3.cell d0; have x1 := hg3.cell d1; have x2 := hg3.cell d2; have x3 := hg3.cell d3; have x4 := hg3.cell d4; have x5 := hg3.cell d5; have x6 := hg3.cell d6
  have hz3 := hg3.size
  go_wp2_with (at_builtin; refine wpList_run rfl _ _ _ rfl rfl rfl HP.out.1 ?_)
  go_ret
  refine ⟨_, rfl, (by simpa using HP.out.2.1), (Kg.of_gr (hg.trans hg3)).trans HP.out.2.2.1, fun b h => (HP.out.2.2.2 b h).imp id fun h => Nat.le_trans (hg.trans hg3).size h⟩
set_option maxRecDepth 20000 in
set_option maxHeartbeats 4000000 in
theorem push06_two (base : Nat) (w0 : World) (m : List Op) (q : Op) (v : Value) (k : Int) (t : ByteArray) (va vb : Int) (vt : ByteArray) (c : Int) (sl : Value) (l : List Attr) (w : World) (h0 : Gr w0 w) (hO : OwnR base w0 w v (m ++ [q])) (hl : RdAttrs w0 sl l) (ht : szS t) (hvt : szS vt)
    (hb : base ≤ w.heap.size) (hb0 : w0.heap.size ≤ base) (hm : (m ++ [q]).length + 1 ≤ 1099511627776) (hk : q.kind = k) (h2 : k = 2) :
    Calls Tryz.prog 141 #[v, .agg #[.int .i64 k, .string t, .int .i64 va, .int .i64 vb, .string vt, .int .i64 c, sl]] w fun e w' => ∃ v', e = .returned v' ∧ OwnR base w0 w' v' (m ++ [q, ⟨k, t, ⟨va, vb, vt⟩, c, l⟩]) ∧
      Kg (fun b => v.ownBlock = some b) opT w w' ∧ ∀ b, v'.ownBlock = some b → v.ownBlock = some b ∨ w.heap.size ≤ b := by
  obtain ⟨a, n, cap, rfl, -, -, -, hln⟩ := hl.sl
  obtain ⟨g, gcap, xs, qs, rfl, hc1, hc2, ho, hqa, hs1, hs2, hgl, hfz, e0, e1, e5, e6, hr⟩ := hO.last
  obtain ⟨qk, qt, qv, qc, qats⟩ := q
  simp only at hqa hs1 hs2 e0 e1 e5 e6 hk
  have HO := Lib.hid hO; clear hO
  obtain ⟨qa, qn, qcap, rfl, -, -, -, hqn⟩ := hqa.sl
  have HR := Lib.hid (And.intro ho hr); clear ho hr
  have hml : m.length ≤ 1099511627776 := by simp at hm; omega
  have hwm : IntKind.i64.wrap (m.length : Int) = m.length := IntWalk.i64_in _ (by omega)
  have hlm : (m.length : Int) < (m.length : Int) + 1 := by omega
  have g0 : ((m.length : Int) + 1 == 0) = false := by simp; omega
  subst hk
  have hk' : (qk == qk) = true := by simp
  have g1 : (qk != qk) = false := by simp
  have h2' : (qk == 2) = true := by simpa using h2
  clear h2
  go_enter Tryz.func141, Tryz.ntmps141
  go_wp2
  obtain ⟨W, hW, B1, hg⟩ := blkOne w 65 #[.int .i64 qk, .string t, .int .i64 va, .int .i64 vb, .string vt, .int .i64 c, .slice a n cap]
  have hWz : W.heap.size = w.heap.size + 1 := by rw [← hW]; simp
  have d0 := B1.cell 0; have d1 := B1.cell 1; have d2 := B1.cell 2; have d3 := B1.cell 3; have d4 := B1.cell 4; have d5 := B1.cell 5; have d6 := B1.cell 6
  simp at d0 d1 d2 d3 d4 d5 d6
  rw [hW]
  have HW := Lib.hid hW; clear hW
  have c0 := hg.cell e0; have c1 := hg.cell e1; have c5 := hg.cell e5; have c6 := hg.cell e6
  go_quiet (fail)
  obtain ⟨w3, hw3⟩ : ∃ w3, W.drewN nq = w3 := ⟨_, rfl⟩
  rw [hw3]
  have hg3 : Gr W w3 := hw3 ▸ (Gr.refl W).drewN nq
  clear hw3
  obtain ⟨v', w', hrun, hown, hk, hv'⟩ := push_opR w3 base w0 22 ⟨qk, t, ⟨va, vb, vt⟩, c, l⟩ _ (OwnR.gr HO.out (hg.trans hg3)) hl ht hvt hm (Nat.le_trans hb (hg.trans hg3).size)
  have HP := Lib.hid (And.intro hrun (And.intro hown (And.intro hk hv'))); clear hrun hown hk hv'
  have x0 := hg3.cell d0; have x1 := hg3.cell d1; have x2 := hg3.cell d2; have x3 := hg3.cell d3; have x4 := hg3.cell d4; have x5 := hg3.cell d5; have x6 := hg3.cell d6
  have hz3 := hg3.size
  go_wp2_with (at_builtin; refine wpList_run rfl _ _ _ rfl rfl rfl HP.out.1 ?_)
  go_ret
  refine ⟨_, rfl, (by simpa using HP.out.2.1), (Kg.of_gr (hg.trans hg3)).trans HP.out.2.2.1, fun b h => (HP.out.2.2.2 b h).imp id fun h => Nat.le_trans (hg.trans hg3).size h⟩
set_option maxRecDepth 20000 in
set_option maxHeartbeats 4000000 in
theorem push06_apart (base : Nat) (w0 : World) (m : List Op) (q : Op) (v : Value) (k : Int) (t : ByteArray) (va vb : Int) (vt : ByteArray) (c : Int) (sl : Value) (l : List Attr) (w : World) (h0 : Gr w0 w) (hO : OwnR base w0 w v (m ++ [q])) (hl : RdAttrs w0 sl l) (ht : szS t) (hvt : szS vt)
    (hb : base ≤ w.heap.size) (hb0 : w0.heap.size ≤ base) (hm : (m ++ [q]).length + 1 ≤ 1099511627776) (hk : q.kind = k) (h2 : k ≠ 2) (hat : q.attrs ≠ l) :
    Calls Tryz.prog 141 #[v, .agg #[.int .i64 k, .string t, .int .i64 va, .int .i64 vb, .string vt, .int .i64 c, sl]] w fun e w' => ∃ v', e = .returned v' ∧ OwnR base w0 w' v' (m ++ [q, ⟨k, t, ⟨va, vb, vt⟩, c, l⟩]) ∧
      Kg (fun b => v.ownBlock = some b) opT w w' ∧ ∀ b, v'.ownBlock = some b → v.ownBlock = some b ∨ w.heap.size ≤ b := by
  obtain ⟨a, n, cap, rfl, -, -, -, hln⟩ := hl.sl
  obtain ⟨g, gcap, xs, qs, rfl, hc1, hc2, ho, hqa, hs1, hs2, hgl, hfz, e0, e1, e5, e6, hr⟩ := hO.last
  obtain ⟨qk, qt, qv, qc, qats⟩ := q
  simp only at hqa hs1 hs2 e0 e1 e5 e6 hk hat
  have HO := Lib.hid hO; clear hO
  obtain ⟨qa, qn, qcap, rfl, -, -, -, hqn⟩ := hqa.sl
  have HR := Lib.hid (And.intro ho hr); clear ho hr
  have hml : m.length ≤ 1099511627776 := by simp at hm; omega
  have hwm : IntKind.i64.wrap (m.length : Int) = m.length := IntWalk.i64_in _ (by omega)
  have hlm : (m.length : Int) < (m.length : Int) + 1 := by omega
  have g0 : ((m.length : Int) + 1 == 0) = false := by simp; omega
  subst hk
  have hk' : (qk == qk) = true := by simp
  have g1 : (qk != qk) = false := by simp
  have h2' : (qk == 2) = false := by simpa using h2
  clear h2
  have HD := Lib.hid (show decide (qats = l) = false by simpa using hat)
  clear hat
  go_enter Tryz.func141, Tryz.ntmps141
  go_wp2
  obtain ⟨W, hW, B1, hg⟩ := blkOne w 65 #[.int .i64 qk, .string t, .int .i64 va, .int .i64 vb, .string vt, .int .i64 c, .slice a n cap]
  have hWz : W.heap.size = w.heap.size + 1 := by rw [← hW]; simp
  have d0 := B1.cell 0; have d1 := B1.cell 1; have d2 := B1.cell 2; have d3 := B1.cell 3; have d4 := B1.cell 4; have d5 := B1.cell 5; have d6 := B1.cell 6
  simp at d0 d1 d2 d3 d4 d5 d6
  rw [hW]
  have HW := Lib.hid hW; clear hW
  have c0 := hg.cell e0; have c1 := hg.cell e1; have c5 := hg.cell e5; have c6 := hg.cell e6
  (refine wp_region_gr (by kernel_rfl) (by kernel_rfl) ?_; (repeat (refine wpQuiet_step (fun K hK => ?_); go_simp; first | (refine hK _ ?_; clear hK K) | (refine ⟨_, fun _ _ => rfl, hK _ ?_⟩; clear hK K) | (apply Exists.intro; refine ⟨fun wq hq => ?_, hK _ ?_⟩; (first | exact (same03_any qats l _ _ wq (RdAttrs.gr hqa ((h0.trans hg).trans hq)) (RdAttrs.gr hl ((h0.trans hg).trans hq))).mono fun e w' h => by rw [HD.out] at h; exact ⟨h.1, hq.trans h.2⟩ | (have q0 := hq.cell c0; have q1 := hq.cell c1; have q5 := hq.cell c5; have q6 := hq.cell c6; have r0 := hq.cell d0; have r1 := hq.cell d1; have r2 := hq.cell d2; have r3 := hq.cell d3; have r4 := hq.cell d4; have r5 := hq.cell d5; have r6 := hq.cell d6; go_simp; rfl)); clear hK K))); refine wpQuiet_nil ?_)
  intro w3 hg3
  obtain ⟨v', w', hrun, hown, hk, hv'⟩ := push_opR w3 base w0 22 ⟨qk, t, ⟨va, vb, vt⟩, c, l⟩ _ (OwnR.gr HO.out (hg.trans hg3)) hl ht hvt hm (Nat.le_trans hb (hg.trans hg3).size)
  have HP := Lib.hid (And.intro hrun (And.intro hown (And.intro hk hv'))); clear hrun hown hk hv'
  have x0 := hg3.cell d0; have x1 := hg3.cell d1; have x2 := hg3.cell d2; have x3 := hg3.cell d3; have x4 := hg3.cell d4; have x5 := hg3.cell d5; have x6 := hg3.cell d6
  have hz3 := hg3.size
  go_wp2_with (at_builtin; refine wpList_run rfl _ _ _ rfl rfl rfl HP.out.1 ?_)
  go_ret
  refine ⟨_, rfl, (by simpa using HP.out.2.1), (Kg.of_gr (hg.trans hg3)).trans HP.out.2.2.1, fun b h => (HP.out.2.2.2 b h).imp id fun h => Nat.le_trans (hg.trans hg3).size h⟩
set_option maxRecDepth 20000 in
set_option maxHeartbeats 4000000 in
theorem push06_join (base : Nat) (w0 : World) (m : List Op) (q : Op) (v : Value) (k : Int) (t : ByteArray) (va vb : Int) (vt : ByteArray) (c : Int) (sl : Value) (l : List Attr) (w : World) (h0 : Gr w0 w) (hO : OwnR base w0 w v (m ++ [q])) (hl : RdAttrs w0 sl l) (ht : szS t) (hvt : szS vt)
    (hb : base ≤ w.heap.size) (hb0 : w0.heap.size ≤ base) (hm : (m ++ [q]).length + 1 ≤ 1099511627776) (hk : q.kind = k) (h2 : k ≠ 2) (hat : q.attrs = l) (hz : q.text.size + t.size ≤ 1099511627776) (hc0 : 0 ≤ q.count) (hc1 : 0 ≤ c) (hc2 : q.count + c ≤ 4611686018427387904) :
    Calls Tryz.prog 141 #[v, .agg #[.int .i64 k, .string t, .int .i64 va, .int .i64 vb, .string vt, .int .i64 c, sl]] w fun e w' => ∃ v', e = .returned v' ∧ OwnR base w0 w' v' (m ++ [{ q with text := q.text ++ t, count := q.count + c }]) ∧
      Kg (fun b => v.ownBlock = some b) opT w w' ∧ ∀ b, v'.ownBlock = some b → v.ownBlock = some b ∨ w.heap.size ≤ b := by
  obtain ⟨a, n, cap, rfl, -, -, -, hln⟩ := hl.sl
  obtain ⟨g, gcap, xs, qs, rfl, hcc1, hcc2, ho, hqa, hs1, hs2, hgl, hfz, e0, e1, e5, e6, hr⟩ := hO.last
  obtain ⟨qk, qt, qv, qc, qats⟩ := q
  simp only at hqa hs1 hs2 e0 e1 e5 e6 hk hat hz hc0 hc2
  have HO := Lib.hid hO; clear hO
  obtain ⟨qa, qn, qcap, rfl, -, -, -, hqn⟩ := hqa.sl
  have HR := Lib.hid (And.intro ho hr); clear ho hr
  have hml : m.length ≤ 1099511627776 := by simp at hm; omega
  have hwm : IntKind.i64.wrap (m.length : Int) = m.length := IntWalk.i64_in _ (by omega)
  have hlm : (m.length : Int) < (m.length : Int) + 1 := by omega
  have g0 : ((m.length : Int) + 1 == 0) = false := by simp; omega
  subst hk
  subst hat
  have hk' : (qk == qk) = true := by simp
  have g1 : (qk != qk) = false := by simp
  have h2' : (qk == 2) = false := by simpa using h2
  clear h2
  have HD := Lib.hid (show decide (qats = qats) = true by simp)
  have hz3 : qt.size + t.size ≤ 9223372036854775807 := by omega
  go_enter Tryz.func141, Tryz.ntmps141
  go_wp2
  obtain ⟨W, hW, B1, hg⟩ := blkOne w 65 #[.int .i64 qk, .string t, .int .i64 va, .int .i64 vb, .string vt, .int .i64 c, .slice a n cap]
  have hWz : W.heap.size = w.heap.size + 1 := by rw [← hW]; simp
  have d0 := B1.cell 0; have d1 := B1.cell 1; have d2 := B1.cell 2; have d3 := B1.cell 3; have d4 := B1.cell 4; have d5 := B1.cell 5; have d6 := B1.cell 6
  simp at d0 d1 d2 d3 d4 d5 d6
  rw [hW]
  have HW := Lib.hid hW; clear hW
  have c0 := hg.cell e0; have c1 := hg.cell e1; have c5 := hg.cell e5; have c6 := hg.cell e6
  (refine wp_region_gr (by kernel_rfl) (by kernel_rfl) ?_; (repeat (refine wpQuiet_step (fun K hK => ?_); go_simp; first | (refine hK _ ?_; clear hK K) | (refine ⟨_, fun _ _ => rfl, hK _ ?_⟩; clear hK K) | (apply Exists.intro; refine ⟨fun wq hq => ?_, hK _ ?_⟩; (first | exact (same03_any qats qats _ _ wq (RdAttrs.gr hqa ((h0.trans hg).trans hq)) (RdAttrs.gr hl ((h0.trans hg).trans hq))).mono fun e w' h => ⟨by simpa using h.1, hq.trans h.2⟩ | (have q0 := hq.cell c0; have q1 := hq.cell c1; have q5 := hq.cell c5; have q6 := hq.cell c6; have r0 := hq.cell d0; have r1 := hq.cell d1; have r2 := hq.cell d2; have r3 := hq.cell d3; have r4 := hq.cell d4; have r5 := hq.cell d5; have r6 := hq.cell d6; go_simp; rfl)); clear hK K))); refine wpQuiet_nil ?_)
  intro w3 hg3
  have x1 := hg3.cell d1; have x5 := hg3.cell d5
  have y1 := hg3.cell c1; have y5 := hg3.cell c5
  have yf := fun o => ((hg.trans hg3).frozens g o hgl).trans (hfz o)
  have hz4 : g < w3.heap.size := Nat.lt_of_lt_of_le hgl (hg.trans hg3).size
  have hz5 : w.heap.size < w3.heap.size := Gr.lt (o := .cells #[.int .i64 qk, .string t, .int .i64 va, .int .i64 vb, .string vt, .int .i64 c, .slice a n cap] 65) (HW.out ▸ hg3)
  have hne : ¬ g = w.heap.size := by omega
  have hne2 : ¬ w.heap.size = g := by omega
  have hw5 : IntKind.i64.wrap (qc + c) = qc + c := IntWalk.i64_in _ (by omega)
  go_wp2
  go_region
  go_wp2
  go_region
  go_wp2
  go_ret
  have ho3 := World.ownsRow.kept HR.out.1 ((hg.trans hg3).grownBy none) (by simp [Value.ownBlock])
  obtain ⟨o1, gb1⟩ := ho3.stored (m.length * 7 + 1) (.string (qt ++ t))
  obtain ⟨o2, gb2⟩ := o1.stored (m.length * 7 + 5) (.int .i64 (qc + c))
  have hro := RowsR.setOp (q' := ⟨qk, qt ++ t, qv, qc + c, qats⟩) HR.out.2 rfl rfl rfl (by simp only [szS, ByteArray.size_append]; omega)
  have hrow : OwnR base w0 ((w3.setCell ⟨g, m.length * 7 + 1, none⟩ (.string (qt ++ t))).setCell ⟨g, m.length * 7 + 5, none⟩ (.int .i64 (qc + c))) (.slice (some ⟨g, 0, none⟩) (m.length + 1) gcap) (m ++ [⟨qk, qt ++ t, qv, qc + c, qats⟩]) :=
    ⟨_, by rw [List.length_append, List.length_singleton]; exact o2, RowsR.map (w := w) (fun _ _ h => h) hro⟩
  refine ⟨_, rfl, hrow.gr ((Gr.refl _).drew.drew), ?_, fun b h => .inl h⟩
  exact ((((Kg.of_gr (hg.trans hg3)).trans (Kg.of_own ho3 (by decide) (fun b h => h) gb1)).trans (Kg.of_own o1 (by decide) (fun b h => h) gb2)).drew).drew
theorem push06_any (base : Nat) (w0 : World) (O : List Op) (v : Value) (k : Int) (t : ByteArray) (va vb : Int) (vt : ByteArray) (c : Int) (sl : Value) (l : List Attr) (w : World) (h0 : Gr w0 w) (hO : OwnR base w0 w v O) (hl : RdAttrs w0 sl l) (ht : szS t) (hvt : szS vt)
    (hb : base ≤ w.heap.size) (hb0 : w0.heap.size ≤ base) (hm : O.length + 1 ≤ 1099511627776) (hz : opsum O + t.size ≤ 1099511627776) (hn : ∀ q ∈ O, 0 ≤ q.count) (hc0 : 0 ≤ c) (hc : csum O + c ≤ 4611686018427387904) :
    Calls Tryz.prog 141 #[v, .agg #[.int .i64 k, .string t, .int .i64 va, .int .i64 vb, .string vt, .int .i64 c, sl]] w fun e w' => ∃ v', e = .returned v' ∧ OwnR base w0 w' v' (push06 O ⟨k, t, ⟨va, vb, vt⟩, c, l⟩) ∧
      Kg (fun b => v.ownBlock = some b) opT w w' ∧ ∀ b, v'.ownBlock = some b → v.ownBlock = some b ∨ w.heap.size ≤ b := by
  rcases snoc_ops O with rfl | ⟨m, q, rfl⟩
  · exact push06_nil0 base w0 v k t va vb vt c sl l w h0 hO hl ht hvt hb hb0 hm
  · rw [push06_snoc]
    by_cases hk : q.kind = k
    · by_cases h2 : k = 2
      · rw [if_pos (.inr (.inl h2))]
        exact push06_two base w0 m q v k t va vb vt c sl l w h0 hO hl ht hvt hb hb0 hm hk h2
      · by_cases hat : q.attrs = l
        · rw [if_neg (by simp [hk, h2, hat])]
          rw [opsum_app, opsum_one] at hz
          rw [csum_app, csum_one] at hc
          have hmc := csum_nn fun x hx => hn x (List.mem_append_left [q] hx)
          have hq := hn q (by simp)
          exact push06_join base w0 m q v k t va vb vt c sl l w h0 hO hl ht hvt hb hb0 hm hk h2 hat (by omega) hq hc0 (by omega)
        · rw [if_pos (.inr (.inr hat))]
          exact push06_apart base w0 m q v k t va vb vt c sl l w h0 hO hl ht hvt hb hb0 hm hk h2 hat
    · rw [if_pos (.inl hk)]
      exact push06_kind base w0 m q v k t va vb vt c sl l w h0 hO hl ht hvt hb hb0 hm hk

end Ve
