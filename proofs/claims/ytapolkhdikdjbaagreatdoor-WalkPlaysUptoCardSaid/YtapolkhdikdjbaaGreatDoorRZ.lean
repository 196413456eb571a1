/- Walks: the reference's walker goes on; the law WalkPlays; a script of calls that came in. -/
import Derived.Test.YtapolkhdikdjbaaGreatDoorRX
import Derived.Test.YtapolkhdikdjbaaGreatDoorA2
set_option linter.all false
/- Walks: the reference's walker goes on (Walker.Next). -/
namespace Ve
open Go Go.RowKit Go.Proofs

/-- An operation whose attributes lie in the world w0, or in a block of one's own. -/
def OpS (w0 w : World) (x : Op) (cs : List Value) : Prop :=
  ∃ v, cs = [.int .i64 x.kind, .string x.text, .int .i64 x.val.kind, .int .i64 x.val.num, .string x.val.text, .int .i64 x.count, v] ∧ (RdAttrs w0 v x.attrs ∨ OwnA w v x.attrs) ∧ szS x.text ∧ szS x.val.text
theorem OpS.gr {w0 w w' : World} {x : Op} {cs : List Value} (h : OpS w0 w x cs) (g : Gr w w') : OpS w0 w' x cs := by
  obtain ⟨v, e, ha, hs⟩ := h
  exact ⟨v, e, ha.imp id fun h => h.gr g, hs⟩
theorem OpS.tn {Wr : Nat → Option TypeId → Prop} {w0 w w' : World} {x : Op} {cs : List Value} (h : OpS w0 w x cs) (g : Tn Wr w w') (h1 : ∀ b, ¬ Wr b (some 83)) : OpS w0 w' x cs := by
  obtain ⟨v, e, ha, hs⟩ := h
  exact ⟨v, e, ha.imp id fun h => h.tn g fun b _ => h1 b, hs⟩
theorem OpS.opR {w0 w : World} {x : Op} {cs : List Value} (h : OpS w0 w x cs) (g : Gr w0 w) : OpR w x cs := by
  obtain ⟨v, e, ha, hs⟩ := h
  refine ⟨v, e, ?_, hs⟩
  rcases ha with ha | ha
  · exact RdAttrs.gr ha g
  · exact ha.rd
theorem OpS.flat (w0 w : World) (x : Op) (cs : List Value) (h : OpS w0 w x cs) : ∀ u ∈ cs, u.oneCell' = true := by
  obtain ⟨v, rfl, ha, -⟩ := h
  obtain ⟨a, m, c, rfl⟩ : ∃ a m c, v = .slice a m c := by
    rcases ha with ha | ha
    · obtain ⟨a, cap, rfl, -⟩ := RdList.slice ha
      exact ⟨_, _, _, rfl⟩
    · obtain ⟨a, m, c, rfl, -⟩ := ha.1.sl
      exact ⟨_, _, _, rfl⟩
  simp [Value.oneCell']
/-- A walker's list: as it came in, or in a block of its own. -/
def Lst (w0 w : World) (sl : Value) (l : List Op) : Prop := RdOps w0 sl l ∨ (OwnL (OpS w0) 7 w0.heap.size 46 w sl l ∧ l.length ≤ 1099511627776)
theorem Lst.rd {w0 w : World} {sl : Value} {l : List Op} (h : Lst w0 w sl l) (g : Gr w0 w) : RdList (OpS w0) 7 w sl l := by
  rcases h with h | h
  · refine RdList.gr (w := w0) (RdList.weak h fun x cs hx => ?_) (fun _ _ h => OpS.gr (w := w0) h g) g
    obtain ⟨v, e, ha, hs⟩ := hx
    exact ⟨v, e, .inl ha, hs⟩
  · exact OwnL.rd h.1 h.2
theorem Lst.ops {w0 w : World} {sl : Value} {l : List Op} (h : Lst w0 w sl l) (g : Gr w0 w) : RdOps w sl l := (h.rd g).weak fun _ _ hx => hx.opR g
theorem Lst.gr {w0 w w' : World} {sl : Value} {l : List Op} (h : Lst w0 w sl l) (g : Gr w w') : Lst w0 w' sl l :=
  h.imp id fun h => ⟨OwnL.gr (w := w) h.1 (fun _ _ h => OpS.gr (w := w) h g) g, h.2⟩
theorem Lst.tn {Wr : Nat → Option TypeId → Prop} {w0 w w' : World} {sl : Value} {l : List Op} (h : Lst w0 w sl l) (g : Tn Wr w w') (h1 : ∀ b, ¬ Wr b (some 83)) (h2 : ∀ b, ¬ Wr b (some 46)) : Lst w0 w' sl l :=
  h.imp id fun h => ⟨OwnL.tn (w := w) h.1 (fun _ _ h => OpS.tn (w := w) h g h1) g fun b _ => h2 b, h.2⟩
/-- The reference's walker in memory. -/
def W7 (w0 w : World) (g : Nat) (l : List Op) : Prop := ∃ sl, Blk w g 33 #[sl] ∧ Lst w0 w sl l
theorem W7.wk {w0 w : World} {g : Nat} {l : List Op} (h : W7 w0 w g l) (k : Gr w0 w) : Wk7 w g l := by
  obtain ⟨sl, hB, hl⟩ := h
  exact ⟨sl, hB, hl.ops k⟩
theorem W7.gr {w0 w w' : World} {g : Nat} {l : List Op} (h : W7 w0 w g l) (k : Gr w w') : W7 w0 w' g l := by
  obtain ⟨sl, hB, hl⟩ := h
  exact ⟨sl, hB.gr k, hl.gr k⟩
theorem W7.tn {Wr : Nat → Option TypeId → Prop} {w0 w w' : World} {g : Nat} {l : List Op} (h : W7 w0 w g l) (k : Tn Wr w w') (h1 : ∀ b, ¬ Wr b (some 83)) (h2 : ∀ b, ¬ Wr b (some 46)) (h3 : ¬ Wr g (some 33)) : W7 w0 w' g l := by
  obtain ⟨sl, hB, hl⟩ := h
  exact ⟨sl, hB.tn k h3, hl.tn k h1 h2⟩
theorem app_opS (w0 w : World) (base : Nat) (ty : TypeId) {v x : Value} {l m : List Op} (hown : OwnL (OpS w0) 7 base 46 w v l) (hx : RdList (OpS w0) 7 w x m) (hm : l.length + m.length ≤ 1099511627776) (hb : base ≤ w.heap.size) :
    ∃ v' w', (Builtin.append_ #[22, 22] ty #[v, x]).run Tryz.prog w = .ok v' w' ∧ OwnL (OpS w0) 7 base 46 w' v' (l ++ m) ∧ Kg (fun b => v.ownBlock = some b) opT w w' ∧ (v'.ownBlock = v.ownBlock ∨ v'.ownBlock = some w.heap.size) := by
  obtain ⟨xs, ho, hr⟩ := id hown
  have hk : ∀ w', w.grownBy w' v.ownBlock → Kg (fun b => v.ownBlock = some b) opT w w' := fun w' hg => Kg.of_own ho (by decide) (fun b h => h) hg
  obtain ⟨v', w', r1, r2, r3, r4⟩ := run_appL (P := Tryz.prog) (R := OpS w0) w base 22 ty 46 _ 7 88 Tryz.underlying22 info_op rfl (by omega) (by omega) (OpS.flat w0 w) hown hx hm hb
    (fun w' y cs hg h => OpS.tn h (Tn.of_kg (Wr := fun _ t => t = some 46) (hk w' hg) fun b t _ ht => by unfold opT at ht; rw [beq_iff_eq.1 ht]) fun b h => by injection h with h; exact absurd h (by decide))
  exact ⟨v', w', r1, r2, hk w' r3, r4⟩
theorem app_litS (w0 w : World) (ty : TypeId) {o : Op} {sl rs : Value} {r : List Op} (hp : RdAttrs w0 sl o.attrs ∨ OwnA w sl o.attrs) (h1 : szS o.text) (h2 : szS o.val.text) (hr : RdList (OpS w0) 7 w rs r) (hlen : r.length + 1 ≤ 1099511627776) :
    ∃ v' w', (Builtin.append_ #[22, 22] ty #[.slice (some ⟨w.heap.size, 0, none⟩) 1 1, rs]).run Tryz.prog (w.alloc (.cells #[.int .i64 o.kind, .string o.text, .int .i64 o.val.kind, .int .i64 o.val.num, .string o.val.text, .int .i64 o.count, sl] 46)) = .ok v' w' ∧ OwnL (OpS w0) 7 w.heap.size 46 w' v' (o :: r) ∧ Gr w w' := by
  have hg : Gr w (w.alloc (.cells #[.int .i64 o.kind, .string o.text, .int .i64 o.val.kind, .int .i64 o.val.num, .string o.val.text, .int .i64 o.count, sl] 46)) := (Gr.refl w).alloc _
  have ho : (w.alloc (.cells #[.int .i64 o.kind, .string o.text, .int .i64 o.val.kind, .int .i64 o.val.num, .string o.val.text, .int .i64 o.count, sl] 46)).ownsRow w.heap.size 46 7 (.slice (some ⟨w.heap.size, 0, none⟩) 1 1) 1 [.int .i64 o.kind, .string o.text, .int .i64 o.val.kind, .int .i64 o.val.num, .string o.val.text, .int .i64 o.count, sl] :=
    ⟨by simp, .inr ⟨w.heap.size, 1, #[.int .i64 o.kind, .string o.text, .int .i64 o.val.kind, .int .i64 o.val.num, .string o.val.text, .int .i64 o.count, sl], rfl, Nat.le_refl _, heap_alloc_new w _, Nat.le_refl _, by simp [maxLen], by simp, by simp⟩⟩
  have hS : OpS w0 w o [.int .i64 o.kind, .string o.text, .int .i64 o.val.kind, .int .i64 o.val.num, .string o.val.text, .int .i64 o.count, sl] := ⟨sl, rfl, hp, h1, h2⟩
  obtain ⟨v', w', e1, e2, e3⟩ := app_opS w0 _ w.heap.size ty (l := [o]) (m := r) ⟨_, ho, RowsR.one rfl (hS.gr hg)⟩ (RdList.gr (w := w) hr (fun _ _ h => OpS.gr (w := w) h hg) hg) (by simp; omega) (by simp)
  exact ⟨v', w', e1, e2, Gr.kgs hg e3.1 (own_fr ho)⟩
theorem cutO_attrs2 (o : Op) (n : Int) : (cutO o n).2.attrs = o.attrs := by unfold cutO; split <;> rfl
theorem cutO_sz2 {o : Op} {n : Int} (hv : brk o.text = o.text.size) (h1 : szS o.text) (h2 : szS o.val.text) : szS (cutO o n).2.text ∧ szS (cutO o n).2.val.text := by
  unfold cutO
  split
  · exact ⟨(text_take_sz hv h1 n.toNat).2, h2⟩
  · exact ⟨h1, h2⟩
theorem Tn.old {Wr Wr' : Nat → Option TypeId → Prop} {w w' : World} (h : Tn Wr w w') (hw : ∀ b t, Wr b t → Wr' b t ∨ w.heap.size ≤ b) : Tn Wr' w w' :=
  ⟨h.os, h.tape, h.output, h.size, fun b o hb hn => h.blk b o hb fun hh => (hw b _ hh).elim hn fun hle => by have := (Array.getElem?_eq_some_iff.1 hb).1; omega⟩
set_option maxRecDepth 20000 in
set_option maxHeartbeats 4000000 in
theorem next07_bad (g : Nat) (n : Int) (w : World) (hn : n < 1) :
    Calls Tryz.prog 20 #[.pointer (some ⟨g, 0, none⟩), .int .i64 n] w fun e w' => e = .returned (.tuple #[.agg #[.int .i64 0, .string ⟨#[]⟩, .int .i64 0, .int .i64 0, .string ⟨#[]⟩, .int .i64 0, .slice none 0 0], .int .i64 12]) ∧ Gr w w' := by
  go_enter Tryz.func20, Tryz.ntmps20
  go_wp2
  have B := (Blk.new w 46 #[.int .i64 0, .string ⟨#[]⟩, .int .i64 0, .int .i64 0, .string ⟨#[]⟩, .int .i64 0, .slice none 0 0]).set7 (.int .i64 0) (.string ⟨#[]⟩) (.int .i64 0) (.int .i64 0) (.string ⟨#[]⟩) (.int .i64 0) (.slice none 0 0)
  have y := B.cell
  unfold Ve.set7 at y
  refine bodyPost_ret (v := .tuple #[.agg #[.int .i64 0, .string ⟨#[]⟩, .int .i64 0, .int .i64 0, .string ⟨#[]⟩, .int .i64 0, .slice none 0 0], .int .i64 12]) (by simp [results, Tryz.results20, go_sem, y]; done) rfl ⟨rfl, ?_⟩
  exact (by repeat (with_reducible first | assumption | exact Gr.refl _ | apply Gr.alloc | apply Gr.drewN | apply Gr.drew | apply Gr.iter | (refine Gr.setCell ?_ (by simp) _) | (refine Gr.trans ?_ (by assumption))))
set_option maxRecDepth 20000 in
set_option maxHeartbeats 4000000 in
theorem next07_nil (w0 : World) (g : Nat) (n : Int) (w : World) (hn : 1 ≤ n) (hW : W7 w0 w g []) (h0 : Gr w0 w) :
    Calls Tryz.prog 20 #[.pointer (some ⟨g, 0, none⟩), .int .i64 n] w fun e w' => e = .returned (.tuple #[.agg #[.int .i64 3, .string ⟨#[]⟩, .int .i64 0, .int .i64 0, .string ⟨#[]⟩, .int .i64 (min n 1099511627776), .slice none 0 0], .int .i64 0]) ∧ Gr w w' := by
  have hWk := hW.wk h0
  have hW0 := hWk
  obtain ⟨sl, hB, hr⟩ := hW0
  obtain ⟨a, m, cap, rfl, -, -, -, hm⟩ := hr.sl
  obtain rfl : m = 0 := hm.out.symm
  go_enter Tryz.func20, Tryz.ntmps20
  go_wp2_with (go_at_call 29; obtain ⟨W, hWq, B0, hgW⟩ := blkOne w 46 #[.int .i64 0, .string ⟨#[]⟩, .int .i64 0, .int .i64 0, .string ⟨#[]⟩, .int .i64 0, .slice none 0 0]; rw [hWq]; have HWq := Lib.hid hWq; clear hWq; refine (left07_any g [] _ (hWk.gr (by repeat (with_reducible first | assumption | exact Gr.refl _ | apply Gr.alloc | apply Gr.drewN | apply Gr.drew | apply Gr.iter | (refine Gr.setCell ?_ (by simp) _) | (refine Gr.trans ?_ (by assumption))))) (by simp)).mono ?_; rintro e w1 ⟨rfl, hg1⟩; dsimp only [leftO]; have b1 := (hB.gr (w' := w1) (by repeat (with_reducible first | assumption | exact Gr.refl _ | apply Gr.alloc | apply Gr.drewN | apply Gr.drew | apply Gr.iter | (refine Gr.setCell ?_ (by simp) _) | (refine Gr.trans ?_ (by assumption))))).cell; have B1 := B0.gr (w' := w1) (by repeat (with_reducible first | assumption | exact Gr.refl _ | apply Gr.alloc | apply Gr.drewN | apply Gr.drew | apply Gr.iter | (refine Gr.setCell ?_ (by simp) _) | (refine Gr.trans ?_ (by assumption)))); have r1c := B1.cell; have r1f := B1.frozen; have r1z := B1.lt)
  have B := B1.set7 (.int .i64 3) (.string ⟨#[]⟩) (.int .i64 0) (.int .i64 0) (.string ⟨#[]⟩) (.int .i64 (min n 1099511627776)) (.slice none 0 0)
  have y := B.cell
  unfold Ve.set7 at y
  refine bodyPost_ret (v := .tuple #[.agg #[.int .i64 3, .string ⟨#[]⟩, .int .i64 0, .int .i64 0, .string ⟨#[]⟩, .int .i64 (min n 1099511627776), .slice none 0 0], .int .i64 0]) (by simp [results, Tryz.results20, go_sem, y]; done) rfl ⟨rfl, ?_⟩
  iterate 7 (refine Gr.setCell ?_ (by dsimp only; omega) _)
  exact (by repeat (with_reducible first | assumption | exact Gr.refl _ | apply Gr.alloc | apply Gr.drewN | apply Gr.drew | apply Gr.iter | (refine Gr.setCell ?_ (by simp) _) | (refine Gr.trans ?_ (by assumption))))
set_option maxRecDepth 20000 in
set_option maxHeartbeats 4000000 in
theorem next07_whole (w0 : World) (g : Nat) (n : Int) (w : World) (o : Op) (r : List Op) (hn : 1 ≤ n) (hW : W7 w0 w g (o :: r)) (h0 : Gr w0 w) (hok : ∀ x ∈ o :: r, checkOp x = 0) (hg : w0.heap.size ≤ g) (hN : rlen o ≤ n) (hN1 : 1 ≤ rlen o) :
    Calls Tryz.prog 20 #[.pointer (some ⟨g, 0, none⟩), .int .i64 n] w fun e w' => ∃ s, e = .returned (.tuple #[opV o s, .int .i64 0]) ∧ RdAttrs w' s o.attrs ∧ W7 w0 w' g r ∧ Tn (fun b t => b = g ∧ t = some 33) w w' := by
  have hWk := hW.wk h0
  obtain ⟨sl, hB, hL⟩ := hW
  have hr := hL.rd h0
  obtain ⟨a, m, cap, rfl, hm1, hm2, hm3, hm⟩ := hr.sl
  have hml : m = r.length + 1 := hm.out.symm
  obtain ⟨b, off, ⟨k, t, ⟨va, vb, vt⟩, c, ats⟩, cs, rfl, hx, ⟨sl', rfl, hra0, s1, s2⟩, _, hc⟩ := RdList.get hr 0 (by omega)
  have c0 := hc 0 _ (by omega) rfl; have c1 := hc 1 _ (by omega) rfl; have c2 := hc 2 _ (by omega) rfl; have c3 := hc 3 _ (by omega) rfl; have c4 := hc 4 _ (by omega) rfl; have c5 := hc 5 _ (by omega) rfl; have c6 := hc 6 _ (by omega) rfl
  clear hc
  simp only [List.getElem?_cons_zero, Option.some.injEq] at hx
  subst hx
  simp only [Nat.zero_mul, Nat.add_zero] at c0 c1 c2 c3 c4 c5 c6
  dsimp only at s1 s2 hra0 c0 c1 c2 c3 c4 c5 c6
  have hra : RdAttrs w sl' ats := hra0.elim (fun h => RdAttrs.gr h h0) (fun h => h.rd)
  have hk := ok_kind (hok ⟨k, t, ⟨va, vb, vt⟩, c, ats⟩ (by simp))
  dsimp only at hk
  obtain ⟨N, hNN⟩ : ∃ N, rlen ⟨k, t, ⟨va, vb, vt⟩, c, ats⟩ = N := ⟨_, rfl⟩
  rw [hNN] at hN hN1
  have hmin : min n N = N := by omega
  have hm0 : (m == 0) = false := by simp; omega
  have hmpos : 0 < m := by omega
  have HK := Lib.hid (And.intro hk hNN); clear hk hNN
  obtain ⟨sa, sn, sc, rfl, -, -, -, -⟩ := RdList.sl hra
  have hgl := hB.lt
  obtain ⟨ad, had⟩ : ∃ ad, (if cap = 1 then some (⟨b, off, none⟩ : Addr) else some ⟨b, off + 7, none⟩) = ad := ⟨_, rfl⟩
  have hTl : RdList (OpS w0) 7 w (.slice ad r.length (cap - 1)) r := by
    by_cases hcap : cap = 1
    · have hr0 : r = [] := List.length_eq_zero_iff.1 (by omega)
      subst hr0 hcap
      exact ⟨ad, 0, [], rfl, Nat.le_refl _, by simp [maxLen], by simp, rfl, fun h => absurd h (by simp)⟩
    · rw [if_neg hcap] at had
      subst had
      have := RdList.drop (hL.rd h0) 1 (by omega)
      simpa [hml] using this
  go_enter Tryz.func20, Tryz.ntmps20
  go_wp2_with (first
    | (go_at_call 29; obtain ⟨W, hWq, B0, hgW⟩ := blkOne w 46 #[.int .i64 0, .string ⟨#[]⟩, .int .i64 0, .int .i64 0, .string ⟨#[]⟩, .int .i64 0, .slice none 0 0]; rw [hWq]; have HWq := Lib.hid hWq; clear hWq; refine (left07_any g _ _ (hWk.gr (by repeat (with_reducible first | assumption | exact Gr.refl _ | apply Gr.alloc | apply Gr.drewN | apply Gr.drew | apply Gr.iter | (refine Gr.setCell ?_ (by simp) _) | (refine Gr.trans ?_ (by assumption))))) hok).mono ?_; rintro e w1 ⟨rfl, hg1⟩; dsimp only [leftO]; rw [HK.out.2]; have hww1 : Gr w w1 := (by repeat (with_reducible first | assumption | exact Gr.refl _ | apply Gr.alloc | apply Gr.drewN | apply Gr.drew | apply Gr.iter | (refine Gr.setCell ?_ (by simp) _) | (refine Gr.trans ?_ (by assumption)))); have b1 := (hB.gr hww1).cell; have d0 := hww1.cell c0; have d1 := hww1.cell c1; have d2 := hww1.cell c2; have d3 := hww1.cell c3; have d4 := hww1.cell c4; have d5 := hww1.cell c5; have d6 := hww1.cell c6)
    | (go_at_call 93; refine (cut07_all k t va vb vt c _ ats _ (RdAttrs.gr (w := w) hra (by repeat (with_reducible first | assumption | exact Gr.refl _ | apply Gr.alloc | apply Gr.drewN | apply Gr.drew | apply Gr.iter | (refine Gr.setCell ?_ (by simp) _) | (refine Gr.trans ?_ (by assumption))))) s1 HK.out.1 N HK.out.2.symm).mono ?_; rintro e w2 ⟨rfl, hg2⟩; have hWw2 : Gr W w2 := Gr.trans hg1 hg2; have hww2 : Gr w w2 := Gr.trans hgW hWw2; have b2 := (hB.gr hww2).cell; have b2z := (hB.gr hww2).lt; have b2z1 : g < w2.heap.size + 1 := (by omega); have b2z2 : g < w2.heap.size + 1 + 1 := (by omega); have C0 := ((Blk.new w2 46 #[.int .i64 k, .string t, .int .i64 va, .int .i64 vb, .string vt, .int .i64 c, .slice sa sn sc]).alloc (.cells #[.int .i64 0, .string ⟨#[]⟩, .int .i64 0, .int .i64 0, .string ⟨#[]⟩, .int .i64 0, .slice none 0 0] 46)).alloc (.cells #[] 46); have gW : Gr w2 _ := (((Gr.refl w2).alloc (.cells #[.int .i64 k, .string t, .int .i64 va, .int .i64 vb, .string vt, .int .i64 c, .slice sa sn sc] 46)).alloc (.cells #[.int .i64 0, .string ⟨#[]⟩, .int .i64 0, .int .i64 0, .string ⟨#[]⟩, .int .i64 0, .slice none 0 0] 46)).alloc (.cells #[] 46); have gwW := Gr.trans hww2 gW; have hz2 := hww2.size; have hz0 := h0.size; obtain ⟨v6, w6, r6, o6, k6, n6⟩ := app_opS w0 _ w0.heap.size 22 (OwnL.made ((w2.alloc (.cells #[.int .i64 k, .string t, .int .i64 va, .int .i64 vb, .string vt, .int .i64 c, .slice sa sn sc] 46)).alloc (.cells #[.int .i64 0, .string ⟨#[]⟩, .int .i64 0, .int .i64 0, .string ⟨#[]⟩, .int .i64 0, .slice none 0 0] 46)) (OpS w0) 7 w0.heap.size 46 (by simp only [World.size_alloc]; omega)) (RdList.gr (w := w) hTl (fun _ _ h => OpS.gr (w := w) h gwW) gwW) (by simp only [List.length_nil]; omega) (by simp only [World.size_alloc]; omega); obtain ⟨x1, x2, x3, rfl, -⟩ := o6.sl; rw [List.nil_append] at o6; have T6 := (Tn.of_kg (Wr := fun b t => b = w2.heap.size + 1 + 1 ∧ t = some 46) k6 (fun b t hb ht => ⟨by simp [Value.ownBlock] at hb; omega, by unfold opT at ht; rw [beq_iff_eq.1 ht]⟩)); have B6 := ((hB.gr hww2).gr gW).tn T6 (fun h => by have := h.1; omega); have C6 := C0.tn T6 (fun h => by have := h.1; omega); have D6 := ((B0.gr hWw2).gr gW).tn T6 (fun h => by have := h.1; omega); have b6c := B6.cell; have b6f := B6.frozen; have b6z := B6.lt; have C7 := C6.far (p := ⟨g, 0, none⟩) (show w2.heap.size ≠ g by omega) (.slice x1 x2 x3); have c7c := C7.cell; have c7z := C7.lt; have D7 := D6.far (p := ⟨g, 0, none⟩) (show w.heap.size ≠ g by omega) (.slice x1 x2 x3); have d7c := D7.cell; have d7f := D7.frozen; have d7z := D7.lt; have HOb := Lib.hid (show ∀ b, (Value.slice x1 x2 x3).ownBlock = some b → w.heap.size < b from fun b hb => (by rcases n6 with h | h <;> (rw [h] at hb; simp only [World.size_alloc, Value.ownBlock, if_true, if_pos, Option.some.injEq] at hb; omega))); have HO := Lib.hid o6; simp only [World.size_alloc] at r6; have HP := Lib.hid (And.intro r6 trivial); clear r6 o6 k6)
    | (at_builtin; refine wpList_run rfl _ _ _ rfl rfl rfl HP.out.1 ?_))
  have D8 := D7.set7 (.int .i64 k) (.string t) (.int .i64 va) (.int .i64 vb) (.string vt) (.int .i64 c) (.slice sa sn sc)
  have T8 := set7_one D7 (.int .i64 k) (.string t) (.int .i64 va) (.int .i64 vb) (.string vt) (.int .i64 c) (.slice sa sn sc)
  have y := D8.cell
  have T7 := ((Tn.set (Wr := fun b t => (b = g ∧ t = some 33) ∨ w.heap.size ≤ b) B6 (.inl ⟨rfl, rfl⟩) 0 (.slice x1 x2 x3))).trans (T8.mono (fun b t h => .inr (Nat.le_of_eq h.1.symm)))
  have hTf := ((Tn.of_gr (Wr := fun b t => (b = g ∧ t = some 33) ∨ w.heap.size ≤ b) gwW).trans (T6.mono (fun b t h => .inr (by have := h.1; omega)))).trans T7
  have hG0 := Gr.tn h0 hTf (fun b t h => by rcases h with h | h <;> omega)
  have T9 : Tn (fun b t => t = some 33 ∨ (b = w.heap.size ∧ t = some 46)) w6 _ := ((Tn.set B6 (.inl rfl) 0 (.slice x1 x2 x3))).trans (T8.mono (fun b t h => .inr h))
  have hOf := OwnL.tn (w := w6) HO.out (fun _ _ h => OpS.tn (w := w6) h T9 (fun b h => by simp at h)) T9 (fun b hb h => h.elim (fun h => absurd (Option.some.inj h) (by decide)) (fun h => by have := HOb.out b hb; have := h.1; omega))
  have hBf := Blk.tn (B6.set 0 (.slice x1 x2 x3)) T8 (fun h => by have := h.1; omega)
  unfold Ve.set7 at y hTf hG0 hOf hBf
  refine bodyPost_ret (v := .tuple #[.agg #[.int .i64 k, .string t, .int .i64 va, .int .i64 vb, .string vt, .int .i64 c, .slice sa sn sc], .int .i64 0]) (by simp [results, Tryz.results20, go_sem, y]; done) rfl ⟨.slice sa sn sc, rfl, ?_, ⟨_, hBf, .inr ⟨hOf, by omega⟩⟩, Tn.old hTf fun b t h => h⟩
  rcases hra0 with h | h
  · exact RdAttrs.gr h hG0
  · exact (h.tn hTf fun b hb hh => by
      rcases hh with hh | hh
      · exact absurd (Option.some.inj hh.2) (by decide)
      · have := (OwnL.lt_ h.1 b hb).2; omega).rd
set_option maxRecDepth 20000 in
set_option maxHeartbeats 4000000 in
theorem next07_cut (w0 : World) (g : Nat) (n : Int) (w : World) (o : Op) (r : List Op) (hn : 1 ≤ n) (hW : W7 w0 w g (o :: r)) (h0 : Gr w0 w) (hok : ∀ x ∈ o :: r, checkOp x = 0) (hg : w0.heap.size ≤ g) (hN : n < rlen o) (hN2 : rlen o ≤ 1099511627776) (hpre : brk o.text = o.text.size ∧ (o.kind = 1 ∨ o.count = rlen o)) :
    Calls Tryz.prog 20 #[.pointer (some ⟨g, 0, none⟩), .int .i64 n] w fun e w' => ∃ s, e = .returned (.tuple #[opV (cutO o n).1 s, .int .i64 0]) ∧ RdAttrs w' s o.attrs ∧ W7 w0 w' g ((cutO o n).2 :: r) ∧ Tn (fun b t => b = g ∧ t = some 33) w w' := by
  have hWk := hW.wk h0
  obtain ⟨sl, hB, hL⟩ := hW
  have hr := hL.rd h0
  obtain ⟨a, m, cap, rfl, hm1, hm2, hm3, hm⟩ := hr.sl
  have hml : m = r.length + 1 := hm.out.symm
  obtain ⟨b, off, ⟨k, t, ⟨va, vb, vt⟩, c, ats⟩, cs, rfl, hx, ⟨sl', rfl, hra0, s1, s2⟩, _, hc⟩ := RdList.get hr 0 (by omega)
  have c0 := hc 0 _ (by omega) rfl; have c1 := hc 1 _ (by omega) rfl; have c2 := hc 2 _ (by omega) rfl; have c3 := hc 3 _ (by omega) rfl; have c4 := hc 4 _ (by omega) rfl; have c5 := hc 5 _ (by omega) rfl; have c6 := hc 6 _ (by omega) rfl
  clear hc
  simp only [List.getElem?_cons_zero, Option.some.injEq] at hx
  subst hx
  simp only [Nat.zero_mul, Nat.add_zero] at c0 c1 c2 c3 c4 c5 c6
  dsimp only at s1 s2 hra0 c0 c1 c2 c3 c4 c5 c6
  have hra : RdAttrs w sl' ats := hra0.elim (fun h => RdAttrs.gr h h0) (fun h => h.rd)
  have hk := ok_kind (hok ⟨k, t, ⟨va, vb, vt⟩, c, ats⟩ (by simp))
  dsimp only at hk
  obtain ⟨N, hNN⟩ : ∃ N, rlen ⟨k, t, ⟨va, vb, vt⟩, c, ats⟩ = N := ⟨_, rfl⟩
  rw [hNN] at hN hN2 hpre
  have hmin : min n N = n := by omega
  have hat : ats.length ≤ 1099511627776 := by obtain ⟨-, -, -, -, -, -, h, -⟩ := hra; exact h
  obtain ⟨k1, t1, ⟨va1, vb1, vt1⟩, c1', at1, hQ1⟩ : ∃ k' t' v' c' a', (cutO ⟨k, t, ⟨va, vb, vt⟩, c, ats⟩ n).1 = ⟨k', t', v', c', a'⟩ := ⟨_, _, _, _, _, rfl⟩
  obtain ⟨k2, t2, ⟨va2, vb2, vt2⟩, c2', at2, hQ2⟩ : ∃ k' t' v' c' a', (cutO ⟨k, t, ⟨va, vb, vt⟩, c, ats⟩ n).2 = ⟨k', t', v', c', a'⟩ := ⟨_, _, _, _, _, rfl⟩
  have e1 := cutO_attrs ⟨k, t, ⟨va, vb, vt⟩, c, ats⟩ n
  have e2 := cutO_attrs2 ⟨k, t, ⟨va, vb, vt⟩, c, ats⟩ n
  have z2 := cutO_sz2 (o := ⟨k, t, ⟨va, vb, vt⟩, c, ats⟩) (n := n) hpre.1 s1 s2
  rw [hQ1] at e1
  rw [hQ2] at e2 z2
  dsimp only at e1 e2 z2
  have e1' := e1.symm; have e2' := e2.symm; clear e1 e2
  subst e1'
  subst e2'
  have HSZ := Lib.hid z2; clear z2
  have HQ := Lib.hid (And.intro hQ1 hQ2); clear hQ1 hQ2
  have HPR := Lib.hid hpre; clear hpre
  have hm0 : (m == 0) = false := by simp; omega
  have hmpos : 0 < m := by omega
  have HK := Lib.hid (And.intro hk hNN); clear hk hNN
  obtain ⟨sa, sn, sc, rfl, -, -, -, -⟩ := RdList.sl hra
  have hgl := hB.lt
  obtain ⟨ad, had⟩ : ∃ ad, (if cap = 1 then some (⟨b, off, none⟩ : Addr) else some ⟨b, off + 7, none⟩) = ad := ⟨_, rfl⟩
  have hTl : RdList (OpS w0) 7 w (.slice ad r.length (cap - 1)) r := by
    by_cases hcap : cap = 1
    · have hr0 : r = [] := List.length_eq_zero_iff.1 (by omega)
      subst hr0 hcap
      exact ⟨ad, 0, [], rfl, Nat.le_refl _, by simp [maxLen], by simp, rfl, fun h => absurd h (by simp)⟩
    · rw [if_neg hcap] at had
      subst had
      have := RdList.drop (hL.rd h0) 1 (by omega)
      simpa [hml] using this
  go_enter Tryz.func20, Tryz.ntmps20
  go_wp2_with (first
    | (go_at_call 29; obtain ⟨W, hWq, B0, hgW⟩ := blkOne w 46 #[.int .i64 0, .string ⟨#[]⟩, .int .i64 0, .int .i64 0, .string ⟨#[]⟩, .int .i64 0, .slice none 0 0]; rw [hWq]; have HWq := Lib.hid hWq; clear hWq; refine (left07_any g _ _ (hWk.gr (by repeat (with_reducible first | assumption | exact Gr.refl _ | apply Gr.alloc | apply Gr.drewN | apply Gr.drew | apply Gr.iter | (refine Gr.setCell ?_ (by simp) _) | (refine Gr.trans ?_ (by assumption))))) hok).mono ?_; rintro e w1 ⟨rfl, hg1⟩; dsimp only [leftO]; rw [HK.out.2]; have hww1 : Gr w w1 := (by repeat (with_reducible first | assumption | exact Gr.refl _ | apply Gr.alloc | apply Gr.drewN | apply Gr.drew | apply Gr.iter | (refine Gr.setCell ?_ (by simp) _) | (refine Gr.trans ?_ (by assumption)))); have b1 := (hB.gr hww1).cell; have d0 := hww1.cell c0; have d1 := hww1.cell c1; have d2 := hww1.cell c2; have d3 := hww1.cell c3; have d4 := hww1.cell c4; have d5 := hww1.cell c5; have d6 := hww1.cell c6)
    | (go_at_call 93; refine (cut07_some k t va vb vt c _ ats _ (RdAttrs.gr (w := w) hra (by repeat (with_reducible first | assumption | exact Gr.refl _ | apply Gr.alloc | apply Gr.drewN | apply Gr.drew | apply Gr.iter | (refine Gr.setCell ?_ (by simp) _) | (refine Gr.trans ?_ (by assumption))))) s1 HK.out.1 n HPR.out.1 N HK.out.2 hn hN HPR.out.2 hN2).mono ?_; rw [HQ.out.1, HQ.out.2]; rintro e w2 ⟨s31, s32, rfl, h31, h32, hg2⟩; obtain ⟨u1, u2, u3, rfl, -⟩ := h31.sl; obtain ⟨v1, v2, v3, rfl, -⟩ := h32.sl; dsimp only [opV]; have hWw2 : Gr W w2 := Gr.trans hg1 hg2; have hww2 : Gr w w2 := Gr.trans hgW hWw2; have b2 := (hB.gr hww2).cell; have b2z := (hB.gr hww2).lt; have b2z1 : g < w2.heap.size + 1 := (by omega); have b2z2 : g < w2.heap.size + 1 + 1 := (by omega); have C0 := ((Blk.new w2 46 #[.int .i64 k1, .string t1, .int .i64 va1, .int .i64 vb1, .string vt1, .int .i64 c1', .slice u1 u2 u3]).alloc (.cells #[.int .i64 k2, .string t2, .int .i64 va2, .int .i64 vb2, .string vt2, .int .i64 c2', .slice v1 v2 v3] 46)).alloc (.cells #[] 46); have gW : Gr w2 _ := (((Gr.refl w2).alloc (.cells #[.int .i64 k1, .string t1, .int .i64 va1, .int .i64 vb1, .string vt1, .int .i64 c1', .slice u1 u2 u3] 46)).alloc (.cells #[.int .i64 k2, .string t2, .int .i64 va2, .int .i64 vb2, .string vt2, .int .i64 c2', .slice v1 v2 v3] 46)).alloc (.cells #[] 46); have gwW := Gr.trans hww2 gW; have hz2 := hww2.size; have hz0 := h0.size; obtain ⟨v6, w6, r6, o6, k6, n6⟩ := app_opS w0 _ w0.heap.size 22 (OwnL.made ((w2.alloc (.cells #[.int .i64 k1, .string t1, .int .i64 va1, .int .i64 vb1, .string vt1, .int .i64 c1', .slice u1 u2 u3] 46)).alloc (.cells #[.int .i64 k2, .string t2, .int .i64 va2, .int .i64 vb2, .string vt2, .int .i64 c2', .slice v1 v2 v3] 46)) (OpS w0) 7 w0.heap.size 46 (by simp only [World.size_alloc]; omega)) (RdList.gr (w := w) hTl (fun _ _ h => OpS.gr (w := w) h gwW) gwW) (by simp only [List.length_nil]; omega) (by simp only [World.size_alloc]; omega); obtain ⟨x1, x2, x3, rfl, -⟩ := o6.sl; rw [List.nil_append] at o6; have T6 := (Tn.of_kg (Wr := fun b t => b = w2.heap.size + 1 + 1 ∧ t = some 46) k6 (fun b t hb ht => ⟨by simp [Value.ownBlock] at hb; omega, by unfold opT at ht; rw [beq_iff_eq.1 ht]⟩)); have B6 := ((hB.gr hww2).gr gW).tn T6 (fun h => by have := h.1; omega); have C6 := C0.tn T6 (fun h => by have := h.1; omega); have D6 := ((B0.gr hWw2).gr gW).tn T6 (fun h => by have := h.1; omega); have E0 := ((Blk.new (w2.alloc (.cells #[.int .i64 k1, .string t1, .int .i64 va1, .int .i64 vb1, .string vt1, .int .i64 c1', .slice u1 u2 u3] 46)) 46 #[.int .i64 k2, .string t2, .int .i64 va2, .int .i64 vb2, .string vt2, .int .i64 c2', .slice v1 v2 v3]).alloc (.cells #[] 46)); rw [World.size_alloc] at E0; have E6 := E0.tn T6 (fun h => by have := h.1; omega); have e6c := E6.cell; have e6z := E6.lt; have hA6 := OwnA.tn (OwnA.gr (OwnAL.rd h32 hat) gW) T6 (fun b _ h => absurd (Option.some.inj h.2) (by decide)); obtain ⟨v7, w7, r7, o7, g67⟩ := app_litS w0 w6 22 (o := ⟨k2, t2, ⟨va2, vb2, vt2⟩, c2', ats⟩) (sl := .slice v1 v2 v3) (.inr hA6) HSZ.out.1 HSZ.out.2 (OwnL.rd o6 (by omega)) (by omega); obtain ⟨y1, y2, y3, rfl, -⟩ := o7.sl; have B7 := B6.gr g67; have b7c := B7.cell; have b7f := B7.frozen; have b7z := B7.lt; have C7 := (C6.gr g67).far (p := ⟨g, 0, none⟩) (show w2.heap.size ≠ g by omega) (.slice y1 y2 y3); have c7c := C7.cell; have c7z := C7.lt; have D7 := (D6.gr g67).far (p := ⟨g, 0, none⟩) (show w.heap.size ≠ g by omega) (.slice y1 y2 y3); have d7c := D7.cell; have d7f := D7.frozen; have d7z := D7.lt; have hz6 : w2.heap.size ≤ w6.heap.size := Nat.le_trans gW.size T6.size; have HO := Lib.hid o7; have hA31 := OwnA.gr (OwnA.tn (OwnA.gr (OwnAL.rd h31 hat) gW) T6 (fun b _ h => absurd (Option.some.inj h.2) (by decide))) g67; simp only [World.size_alloc] at r6; have HP := Lib.hid (And.intro r6 trivial); have HP2 := Lib.hid (And.intro r7 trivial); clear r6 o6 k6 r7 o7)
    | (at_builtin; have _h := hbb; refine wpList_run rfl _ _ _ rfl rfl rfl HP2.out.1 ?_)
    | (at_builtin; refine wpList_run rfl _ _ _ rfl rfl rfl HP.out.1 ?_; have hbb := HP2))
  have D8 := D7.set7 (.int .i64 k1) (.string t1) (.int .i64 va1) (.int .i64 vb1) (.string vt1) (.int .i64 c1') (.slice u1 u2 u3)
  have T8 := set7_one D7 (.int .i64 k1) (.string t1) (.int .i64 va1) (.int .i64 vb1) (.string vt1) (.int .i64 c1') (.slice u1 u2 u3)
  have y := D8.cell
  have T7 := ((Tn.set (Wr := fun b t => (b = g ∧ t = some 33) ∨ w.heap.size ≤ b) B7 (.inl ⟨rfl, rfl⟩) 0 (.slice y1 y2 y3))).trans (T8.mono (fun b t h => .inr (Nat.le_of_eq h.1.symm)))
  have hTf := (((Tn.of_gr (Wr := fun b t => (b = g ∧ t = some 33) ∨ w.heap.size ≤ b) gwW).trans (T6.mono (fun b t h => .inr (by have := h.1; omega)))).trans (Tn.of_gr g67)).trans T7
  have T9 : Tn (fun b t => t = some 33 ∨ (b = w.heap.size ∧ t = some 46)) w7 _ := ((Tn.set B7 (.inl rfl) 0 (.slice y1 y2 y3))).trans (T8.mono (fun b t h => .inr h))
  have hOf := OwnL.tn (w := w7) HO.out (fun _ _ h => OpS.tn (w := w7) h T9 (fun b h => by simp at h)) T9 (fun b hb h => h.elim (fun h => absurd (Option.some.inj h) (by decide)) (fun h => by have := (OwnL.lt_ HO.out b hb).1; have := h.1; omega))
  have hAf := OwnA.tn hA31 T9 (fun b _ h => by simp at h)
  have hBf := Blk.tn (B7.set 0 (.slice y1 y2 y3)) T8 (fun h => by have := h.1; omega)
  unfold Ve.set7 at y hTf hOf hBf hAf
  refine bodyPost_ret (v := .tuple #[.agg #[.int .i64 k1, .string t1, .int .i64 va1, .int .i64 vb1, .string vt1, .int .i64 c1', .slice u1 u2 u3], .int .i64 0]) (by simp [results, Tryz.results20, go_sem, y]; done) rfl ⟨.slice u1 u2 u3, by rw [HQ.out.1]; rfl, hAf.rd, ⟨_, hBf, .inr ⟨?_, by rw [List.length_cons]; omega⟩⟩, Tn.old hTf fun b t h => h⟩
  rw [HQ.out.2]
  exact OwnL.base_le hOf (by omega)
end Ve
/- Walks: the law WalkPlays. -/
namespace Ve
open Go Go.RowKit Go.Proofs

theorem wnext_bad {ea : Nat → Addr} (g : Nat) (n : Int) (w : World) (hE : Env ea w) (hn : n < 1) :
    Calls Tryz.prog 19 #[.pointer (some ⟨g, 0, none⟩), .int .i64 n] w fun e w' => e = .returned (.tuple #[.nilIface, errOf ea 12]) ∧ Gr w w' := by
  have f12 := hE.e12
  go_enter Tryz.func19, Tryz.ntmps19
  go_wp2
  go_quiet (fail)
  go_wp2
  go_ret2
  exact ⟨rfl, (by repeat (with_reducible first | assumption | exact Gr.refl _ | apply Gr.alloc | apply Gr.drewN | apply Gr.drew | apply Gr.iter | (refine Gr.setCell ?_ (by simp) _) | (refine Gr.trans ?_ (by assumption))))⟩
theorem kind_ops (ps : List Piece) : kindO (ps.map Piece.op) = kindP ps := by
  cases ps with
  | nil => rfl
  | cons p r => cases p <;> rfl
theorem left_ops {ps : List Piece} (h : PsOk ps) : leftO (ps.map Piece.op) = leftP ps := by
  cases ps with
  | nil => rfl
  | cons p r => exact rlen_piece (h p (by simp))
theorem next07_any (w0 : World) (g : Nat) (n : Int) (w : World) (ps : List Piece) (hn : 1 ≤ n) (hW : W7 w0 w g (ps.map Piece.op)) (h0 : Gr w0 w) (hc : Can ps) (hg : w0.heap.size ≤ g) :
    Calls Tryz.prog 20 #[.pointer (some ⟨g, 0, none⟩), .int .i64 n] w fun e w' => ∃ s, e = .returned (.tuple #[opV (nextP ps n).1.op s, .int .i64 0]) ∧ RdAttrs w' s (nextP ps n).1.op.attrs ∧ W7 w0 w' g ((nextP ps n).2.map Piece.op) ∧ Tn (fun b t => b = g ∧ t = some 33) w w' := by
  cases ps with
  | nil =>
    refine (next07_nil w0 g n w hn hW h0).mono ?_
    rintro e w' ⟨rfl, hg'⟩
    exact ⟨.slice none 0 0, rfl, RdList.nil .., hW.gr hg', Tn.of_gr hg'⟩
  | cons p r =>
    have hp := hc.ok p (by simp)
    have hl := rlen_piece hp
    have h1 := pOk_pos hp
    have hb := hc.left.2
    simp only [leftP] at hb
    by_cases hN : p.len ≤ n
    · rw [show nextP (p :: r) n = (p, r) by simp only [nextP]; rw [if_pos hN]]
      exact next07_whole w0 g n w p.op (r.map Piece.op) hn hW h0 hc.ok.ops hg (by rw [hl]; exact hN) (by rw [hl]; exact h1)
    · have hne : ∀ a t v, p ≠ .emb a t v := by rintro a t v rfl; simp only [Piece.len] at hN; omega
      obtain ⟨c1, c2⟩ := cut_op (n := n) hne
      rw [show nextP (p :: r) n = ((cutP p n).1, (cutP p n).2 :: r) by simp only [nextP]; rw [if_neg hN]]
      obtain ⟨k, t, v, c, a, ho⟩ : ∃ k t v c a, p.op = ⟨k, t, v, c, a⟩ := ⟨_, _, _, _, _, rfl⟩
      obtain ⟨q1, q2, q3⟩ := cut_pre hp ho rfl hne
      refine (next07_cut w0 g n w p.op (r.map Piece.op) hn hW h0 hc.ok.ops hg (by rw [hl]; omega) (by rw [hl]; exact hb) (by rw [hl, ho]; exact ⟨q2, q3⟩)).mono ?_
      rintro e w' ⟨s, rfl, ha, hw, ht⟩
      rw [c2] at hw
      have hat : (cutP p n).1.op.attrs = p.op.attrs := by rw [← c1, cutO_attrs]
      exact ⟨s, by rw [c1], by dsimp only; rw [hat]; exact ha, hw, ht⟩
/-- A script of calls in memory. -/
def ScrR (_ : World) (x : Int × Int) (cs : List Value) : Prop := cs = [.int .i64 x.1, .int .i64 x.2] ∧ x.2 ≤ 9223372036854775807
abbrev RdScr (w : World) (v : Value) (l : List (Int × Int)) : Prop := RdList ScrR 2 w v l
theorem RdScr.gr {w w' : World} {v : Value} {l : List (Int × Int)} (h : RdScr w v l) (g : Gr w w') : RdScr w' v l := RdList.gr (w := w) h (fun _ _ h => h) g
theorem RdScr.at_ {w : World} {a : Option Addr} {n cap : Nat} {l : List (Int × Int)} (h : RdScr w (.slice a n cap) l) (i : Nat) (hi : i < n) : ∃ b off x y, l[i]? = some (x, y) ∧ a = some ⟨b, off, none⟩ ∧ w.cell? ⟨b, off + i * 2, none⟩ = some (.int .i64 x) ∧ w.cell? ⟨b, off + i * 2 + 1, none⟩ = some (.int .i64 y) ∧ y ≤ 9223372036854775807 := by
  obtain ⟨b, off, ⟨x, y⟩, cs, e, hx, ⟨rfl, hb⟩, _, hc⟩ := RdList.get h i hi
  exact ⟨b, off, x, y, hx, e, hc 0 _ (by omega) rfl, hc 1 _ (by omega) rfl, hb⟩
/-- What the program holds between two rounds of WalkPlays. -/
structure WpM (w : World) (gw g7 : Nat) (lb : Option Nat) (rs : List Piece) (wr : World) : Prop where
  gr : Gr w wr
  walk : WalkX wr gw lb rs
  ref : W7 w wr g7 (rs.map Piece.op)
  can : Can rs
  gw0 : w.heap.size ≤ gw
  g70 : w.heap.size ≤ g7
theorem WpM.to {w wr w' : World} {gw g7 : Nat} {lb : Option Nat} {rs : List Piece} (h : WpM w gw g7 lb rs wr) (g : Gr wr w') : WpM w gw g7 lb rs w' :=
  ⟨Gr.trans h.gr g, h.walk.gr g, h.ref.gr g, h.can, h.gw0, h.g70⟩
set_option maxRecDepth 20000 in
set_option maxHeartbeats 8000000 in
theorem walkPlays_any {ea : Nat → Addr} (l : List Op) (v : Value) (ls : List (Int × Int)) (vl : Value) (w : World) (hE9 : Env19 ea w) (hl : RdOps w v l) (hT : opsum l ≤ 1048576) (hN : l.length ≤ 1048576) (hls : RdScr w vl ls) :
    Calls Tryz.prog 3 #[v, vl] w fun e w' => e = .returned (.bool true) ∧ Gr w w' := by
  have hE := hE9.env
  have HBl := heavy_bound hl hT hN
  obtain ⟨aa, na, ca, rfl, -⟩ := hl.sl
  obtain ⟨al, nl, cl, rfl, -, -, -, hnl⟩ := hls.sl
  by_cases hha : heavyN l ≤ 6000
  case neg =>
    have HA := Lib.hid (show decide (6000 < heavyN l) = true from by simpa using hha); clear hha
    go_enter Tryz.func3, Tryz.ntmps3
    go_wp2_with (first
                | (go_at_call 15; refine (lives07_any _ (hE.gr (by repeat (with_reducible first | assumption | exact Gr.refl _ | apply Gr.alloc | apply Gr.drewN | apply Gr.drew | apply Gr.iter | (refine Gr.setCell ?_ (by simp) _) | (refine Gr.trans ?_ (by assumption)))))).mono ?_; rintro e w1 ⟨rfl, hg1⟩)
                | (go_at_call 16; refine (heavy_any l _ _ (RdOps.gr hl (by repeat (with_reducible first | assumption | exact Gr.refl _ | apply Gr.alloc | apply Gr.drewN | apply Gr.drew | apply Gr.iter | (refine Gr.setCell ?_ (by simp) _) | (refine Gr.trans ?_ (by assumption))))) HBl).mono ?_; rw [HA.out]; rintro e w2 ⟨rfl, hg2⟩)
                | (go_at_call 17; refine (made_any l _ _ (hE.gr (by repeat (with_reducible first | assumption | exact Gr.refl _ | apply Gr.alloc | apply Gr.drewN | apply Gr.drew | apply Gr.iter | (refine Gr.setCell ?_ (by simp) _) | (refine Gr.trans ?_ (by assumption))))) (RdOps.gr hl (by repeat (with_reducible first | assumption | exact Gr.refl _ | apply Gr.alloc | apply Gr.drewN | apply Gr.drew | apply Gr.iter | (refine Gr.setCell ?_ (by simp) _) | (refine Gr.trans ?_ (by assumption))))) HZ.out.1 HZ.out.2.1 HZ.out.2.2).mono ?_; rw [GA.out]; rintro e w4 ⟨dv, ov, rfl, hg4, hda, -⟩))
    go_ret
    exact ⟨rfl, (by repeat (with_reducible first | assumption | exact Gr.refl _ | apply Gr.alloc | apply Gr.drewN | apply Gr.drew | apply Gr.iter | (refine Gr.setCell ?_ (by simp) _) | (refine Gr.trans ?_ (by assumption))))⟩
  case pos =>
    have HA := Lib.hid (show decide (6000 < heavyN l) = false from by simpa using hha)
    by_cases hls3 : 200 < nl
    case pos =>
      have hls3' : (200 : Int) < nl := by omega
      clear hha
      go_enter Tryz.func3, Tryz.ntmps3
      go_wp2_with (first
                  | (go_at_call 15; refine (lives07_any _ (hE.gr (by repeat (with_reducible first | assumption | exact Gr.refl _ | apply Gr.alloc | apply Gr.drewN | apply Gr.drew | apply Gr.iter | (refine Gr.setCell ?_ (by simp) _) | (refine Gr.trans ?_ (by assumption)))))).mono ?_; rintro e w1 ⟨rfl, hg1⟩)
                  | (go_at_call 16; refine (heavy_any l _ _ (RdOps.gr hl (by repeat (with_reducible first | assumption | exact Gr.refl _ | apply Gr.alloc | apply Gr.drewN | apply Gr.drew | apply Gr.iter | (refine Gr.setCell ?_ (by simp) _) | (refine Gr.trans ?_ (by assumption))))) HBl).mono ?_; rw [HA.out]; rintro e w2 ⟨rfl, hg2⟩)
                  | (go_at_call 17; refine (made_any l _ _ (hE.gr (by repeat (with_reducible first | assumption | exact Gr.refl _ | apply Gr.alloc | apply Gr.drewN | apply Gr.drew | apply Gr.iter | (refine Gr.setCell ?_ (by simp) _) | (refine Gr.trans ?_ (by assumption))))) (RdOps.gr hl (by repeat (with_reducible first | assumption | exact Gr.refl _ | apply Gr.alloc | apply Gr.drewN | apply Gr.drew | apply Gr.iter | (refine Gr.setCell ?_ (by simp) _) | (refine Gr.trans ?_ (by assumption))))) HZ.out.1 HZ.out.2.1 HZ.out.2.2).mono ?_; rw [GA.out]; rintro e w4 ⟨dv, ov, rfl, hg4, hda, -⟩))
      go_ret
      exact ⟨rfl, (by repeat (with_reducible first | assumption | exact Gr.refl _ | apply Gr.alloc | apply Gr.drewN | apply Gr.drew | apply Gr.iter | (refine Gr.setCell ?_ (by simp) _) | (refine Gr.trans ?_ (by assumption))))⟩
    case neg =>
      have hls3' : ¬ (200 : Int) < nl := by omega
      obtain ⟨ya1, ya2, ya3⟩ := heavy_parts hha
      have HZ := Lib.hid (show opsum l ≤ 1099511627776 ∧ 2 * l.length + 4 ≤ 1099511627776 ∧ ∀ o ∈ l, o.attrs.length + 1 ≤ 1099511627776 from ⟨by omega, by omega, fun o ho => by have := ya3 o ho; omega⟩)
      clear ya1 ya2 ya3
      by_cases ga : (pushAll l).2.2 = 0
      case neg =>
        have GA := Lib.hid (show decide ((pushAll l).2.2 = 0) = false from decide_eq_false ga); clear ga hha
        go_enter Tryz.func3, Tryz.ntmps3
        go_wp2_with (first
                    | (go_at_call 15; refine (lives07_any _ (hE.gr (by repeat (with_reducible first | assumption | exact Gr.refl _ | apply Gr.alloc | apply Gr.drewN | apply Gr.drew | apply Gr.iter | (refine Gr.setCell ?_ (by simp) _) | (refine Gr.trans ?_ (by assumption)))))).mono ?_; rintro e w1 ⟨rfl, hg1⟩)
                    | (go_at_call 16; refine (heavy_any l _ _ (RdOps.gr hl (by repeat (with_reducible first | assumption | exact Gr.refl _ | apply Gr.alloc | apply Gr.drewN | apply Gr.drew | apply Gr.iter | (refine Gr.setCell ?_ (by simp) _) | (refine Gr.trans ?_ (by assumption))))) HBl).mono ?_; rw [HA.out]; rintro e w2 ⟨rfl, hg2⟩)
                    | (go_at_call 17; refine (made_any l _ _ (hE.gr (by repeat (with_reducible first | assumption | exact Gr.refl _ | apply Gr.alloc | apply Gr.drewN | apply Gr.drew | apply Gr.iter | (refine Gr.setCell ?_ (by simp) _) | (refine Gr.trans ?_ (by assumption))))) (RdOps.gr hl (by repeat (with_reducible first | assumption | exact Gr.refl _ | apply Gr.alloc | apply Gr.drewN | apply Gr.drew | apply Gr.iter | (refine Gr.setCell ?_ (by simp) _) | (refine Gr.trans ?_ (by assumption))))) HZ.out.1 HZ.out.2.1 HZ.out.2.2).mono ?_; rw [GA.out]; rintro e w4 ⟨dv, ov, rfl, hg4, hda, -⟩))
        go_ret
        exact ⟨rfl, (by repeat (with_reducible first | assumption | exact Gr.refl _ | apply Gr.alloc | apply Gr.drewN | apply Gr.drew | apply Gr.iter | (refine Gr.setCell ?_ (by simp) _) | (refine Gr.trans ?_ (by assumption))))⟩
      case pos =>
        have GA := Lib.hid (show decide ((pushAll l).2.2 = 0) = true from decide_eq_true ga)
        have pa : pushAll l = ((pushAll l).1, 0, 0) := by obtain ⟨e1, e2⟩ := push_put (s := .new) (i := 0) (l := l) ga; exact (show pushAll l = _ from e1).trans (by rw [show (pushAll l).1 = putAll .new l from congrArg (·.1) (show pushAll l = _ from e1)])
        obtain ⟨hp, lp, tp⟩ := made_facts hha pa
        obtain ⟨ps, hps⟩ : ∃ ps, (pushAll l).1.delta = ps := ⟨_, rfl⟩
        rw [hps] at hp lp tp
        have PA := Lib.hid hps; have GA0 := Lib.hid ga
        have LP := Lib.hid (And.intro lp tp)
        clear hps ga pa hha lp tp
        go_enter Tryz.func3, Tryz.ntmps3
        go_wp2_with (first
                    | (go_at_call 15; refine (lives07_any _ (hE.gr (by repeat (with_reducible first | assumption | exact Gr.refl _ | apply Gr.alloc | apply Gr.drewN | apply Gr.drew | apply Gr.iter | (refine Gr.setCell ?_ (by simp) _) | (refine Gr.trans ?_ (by assumption)))))).mono ?_; rintro e w1 ⟨rfl, hg1⟩)
                    | (go_at_call 16; refine (heavy_any l _ _ (RdOps.gr hl (by repeat (with_reducible first | assumption | exact Gr.refl _ | apply Gr.alloc | apply Gr.drewN | apply Gr.drew | apply Gr.iter | (refine Gr.setCell ?_ (by simp) _) | (refine Gr.trans ?_ (by assumption))))) HBl).mono ?_; rw [HA.out]; rintro e w2 ⟨rfl, hg2⟩)
                    | (go_at_call 17; refine (made_any l _ _ (hE.gr (by repeat (with_reducible first | assumption | exact Gr.refl _ | apply Gr.alloc | apply Gr.drewN | apply Gr.drew | apply Gr.iter | (refine Gr.setCell ?_ (by simp) _) | (refine Gr.trans ?_ (by assumption))))) (RdOps.gr hl (by repeat (with_reducible first | assumption | exact Gr.refl _ | apply Gr.alloc | apply Gr.drewN | apply Gr.drew | apply Gr.iter | (refine Gr.setCell ?_ (by simp) _) | (refine Gr.trans ?_ (by assumption))))) HZ.out.1 HZ.out.2.1 HZ.out.2.2).mono ?_; rw [GA.out]; rintro e w4 ⟨dv, ov, rfl, hg4, hda, -⟩; obtain ⟨hda1, hda2⟩ := hda GA0.out; rw [PA.out] at hda1 hda2; obtain ⟨gd, sd, rfl, hBd, hrd⟩ := hda1; have hD4 := Lib.hid (show DeltaR w4 (.pointer (some ⟨gd, 0, none⟩)) ps from ⟨gd, sd, rfl, hBd, hrd⟩); obtain ⟨oa, on, oc, rfl, -⟩ := hda2.sl; have hO4 := Lib.hid hda2; clear hda hda2 hBd hrd)
                    | (go_at_call 18; refine (wnew_any ps _ _ (hE.gr (by repeat (with_reducible first | assumption | exact Gr.refl _ | apply Gr.alloc | apply Gr.drewN | apply Gr.drew | apply Gr.iter | (refine Gr.setCell ?_ (by simp) _) | (refine Gr.trans ?_ (by assumption))))) (DeltaR.gr (w := w4) hD4.out (by repeat (with_reducible first | assumption | exact Gr.refl _ | apply Gr.alloc | apply Gr.drewN | apply Gr.drew | apply Gr.iter | (refine Gr.setCell ?_ (by simp) _) | (refine Gr.trans ?_ (by assumption))))) hp.ok).mono ?_; rintro e w5 ⟨gw, lb, rfl, hgw, hW5, hlb, hg5⟩)
                    | (go_at_call 33; refine (newx_any _).mono ?_; rintro e w6 ⟨rfl, hB6, hg6⟩))
        have hE4 : Env ea w4 := hE.gr (by repeat (with_reducible first | assumption | exact Gr.refl _ | apply Gr.alloc | apply Gr.drewN | apply Gr.drew | apply Gr.iter | (refine Gr.setCell ?_ (by simp) _) | (refine Gr.trans ?_ (by assumption))))
        have hE94 : Env19 ea w4 := hE9.gr (by repeat (with_reducible first | assumption | exact Gr.refl _ | apply Gr.alloc | apply Gr.drewN | apply Gr.drew | apply Gr.iter | (refine Gr.setCell ?_ (by simp) _) | (refine Gr.trans ?_ (by assumption))))
        have hgw4 : Gr w w4 := (by repeat (with_reducible first | assumption | exact Gr.refl _ | apply Gr.alloc | apply Gr.drewN | apply Gr.drew | apply Gr.iter | (refine Gr.setCell ?_ (by simp) _) | (refine Gr.trans ?_ (by assumption))))
        have hls4 : RdScr w4 (.slice al nl cl) ls := RdScr.gr hls hgw4
        obtain ⟨g7, hg7⟩ : ∃ g7, w5.heap.size = g7 := ⟨_, rfl⟩
        have hB7 := Blk.new w5 33 #[.slice oa on oc]
        have hg46 : Gr w5 (w5.alloc (.cells #[.slice oa on oc] 33)) := (Gr.refl w5).alloc _
        obtain ⟨w6, hw6⟩ : ∃ w6, w5.alloc (.cells #[.slice oa on oc] 33) = w6 := ⟨_, rfl⟩
        rw [hg7, hw6] at hB7
        rw [hw6] at hg46 ⊢
        rw [hg7]
        have hg74 : w4.heap.size ≤ g7 := by rw [← hg7]; exact Gr.size (w := w4) (w' := w5) (by repeat (with_reducible first | assumption | exact Gr.refl _ | apply Gr.alloc | apply Gr.drewN | apply Gr.drew | apply Gr.iter | (refine Gr.setCell ?_ (by simp) _) | (refine Gr.trans ?_ (by assumption))))
        clear hw6 hg7 hg1 hg2 hg4
        go_loopw [44] (fun iv wr => ∃ (k : Nat) (lb' : Option Nat) (rs : List Piece), k ≤ nl ∧ iv = .int .i64 k ∧ WpM w4 gw g7 lb' rs wr ∧ rs.length ≤ ps.length ∧ tsum rs ≤ tsum ps) (fun iv _ => nl - (intOf iv).toNat)
        case atStart => exact ⟨0, lb, ps, Nat.zero_le _, rfl, ⟨Gr.trans hg5 hg46, hW5.gr hg46, ⟨_, hB7, .inl hO4.out⟩, hp, hgw, hg74⟩, Nat.le_refl _, Nat.le_refl _⟩
        case round =>
          obtain ⟨k, lb', rs, hk, rfl, hS, hrl, hrt⟩ := hrel
          have hgr := hS.gr
          have HS := Lib.hid hS
          by_cases hlt : k < nl
          · have hlt' : (k : Int) < nl := by omega
            obtain ⟨b, off, K, nn, hx, rfl, d0, d1, hnn⟩ := (RdScr.gr hls4 hgr).at_ k hlt
            clear hx
            have hor := opsum_ps hS.can.ok
            have HR := Lib.hid (show opsum (rs.map Piece.op) ≤ 1099511627776 ∧ 2 * rs.length + 2 ≤ 1099511627776 from ⟨by have := LP.out; omega, by have := LP.out.1; omega⟩)
            clear hor
            by_cases hK0 : K = 0
            · subst hK0
              by_cases hn1 : nn < 1
              · clear hS
                obtain ⟨sl7, hB7r, hL7⟩ := id (HS.out.ref)
                have hr7 := hL7.ops hgr
                obtain ⟨a7, n7, c7, rfl, -, -, -, hn7⟩ := hr7.sl
                obtain ⟨D7, hD7⟩ : ∃ D7, decide (rs = []) = D7 := ⟨_, rfl⟩
                have hn7' : n7 = rs.length := by have := hn7.out; rw [List.length_map] at this; exact this.symm
                have e7a : decide ((n7 : Int) = 0) = D7 := by rw [← hD7, hn7']; cases rs <;> simp <;> omega
                have e7b : ((n7 : Int) == 0) = D7 := by rw [← e7a]; rfl
                have e7c : (n7 == 0) = D7 := by rw [← hD7, hn7']; cases rs <;> simp
                have e7d : decide (n7 = 0) = D7 := by rw [← hD7, hn7']; cases rs <;> simp
                have HKP := Lib.hid (And.intro (kind_ops rs) (left_ops (HS.out.can).ok))
                clear hn7'
                have HD7 := Lib.hid hD7; clear hD7
                go_wp2_with (first
                  | (go_at_call 19; refine (wnext_bad gw nn _ (hE4.gr (Gr.trans hgr (by repeat (with_reducible first | assumption | exact Gr.refl _ | apply Gr.alloc | apply Gr.drewN | apply Gr.drew | apply Gr.iter | (refine Gr.setCell ?_ (by simp) _) | (refine Gr.trans ?_ (by assumption)))))) hn1).mono ?_; rintro e y1 ⟨rfl, hy1⟩; have Bx1 := (Blk.new wr 35 #[.int .i64 0, .int .i64 nn]).gr hy1; have bx1c := Bx1.cell; have bx1z := Bx1.lt)
                  | (go_at_call 20; refine (next07_bad g7 nn _ hn1).mono ?_; rintro e y2 ⟨rfl, hy2⟩; have B46 := Blk.new y2 46 #[.int .i64 0, .string ⟨#[]⟩, .int .i64 0, .int .i64 0, .string ⟨#[]⟩, .int .i64 0, .slice none 0 0])
                  | (go_at_call 21; refine (num_any 12 _ (hE94.gr (Gr.trans hgr (by repeat (with_reducible first | assumption | exact Gr.refl _ | apply Gr.alloc | apply Gr.drewN | apply Gr.drew | apply Gr.iter | (refine Gr.setCell ?_ (by simp) _) | (refine Gr.trans ?_ (by assumption)))))) (by omega) (by omega)).mono ?_; rintro e y3 ⟨rfl, hy3⟩; have B3 := B46.gr hy3; have b3c := B3.cell; have b3z := B3.lt)
                  | (go_at_call 22; refine (is07_nil ⟨#[]⟩ 0 0 ⟨#[]⟩ 0 (.slice none 0 0) [] _ (RdList.nil ..)).mono ?_; rintro e y4 ⟨rfl, hy4⟩))
                go_quiet (fail)
                all_goals go_wp2
                all_goals go_region_held3 (fun W => W.cell? ⟨g7, 0, none⟩ = some (.slice a7 n7 c7)) (first | exact (hB7r.gr (by repeat (with_reducible first | assumption | exact Gr.refl _ | apply Gr.alloc | apply Gr.drewN | apply Gr.drew | apply Gr.iter | (refine Gr.setCell ?_ (by simp) _) | (refine Gr.trans ?_ (by assumption))))).cell 0 | go_keep) (first
                          | (go_at_call 26; refine (wkindw_any gw lb' rs _ (WalkX.gr (w := wr) HS.out.walk (by repeat (with_reducible first | assumption | exact Gr.refl _ | apply Gr.alloc | apply Gr.drewN | apply Gr.drew | apply Gr.iter | (refine Gr.setCell ?_ (by simp) _) | (refine Gr.trans ?_ (by assumption)))))).mono ?_; rintro e t1 ⟨rfl, ht1⟩)
                          | (go_at_call 27; refine (kind07_any g7 (rs.map Piece.op) _ (Wk7.gr (w := wr) (W7.wk HS.out.ref hgr) (by repeat (with_reducible first | assumption | exact Gr.refl _ | apply Gr.alloc | apply Gr.drewN | apply Gr.drew | apply Gr.iter | (refine Gr.setCell ?_ (by simp) _) | (refine Gr.trans ?_ (by assumption)))))).mono ?_; rw [HKP.out.1]; rintro e t2 ⟨rfl, ht2⟩)
                          | (go_at_call 28; refine (wleft_any gw lb' rs _ (WalkX.gr (w := wr) HS.out.walk (by repeat (with_reducible first | assumption | exact Gr.refl _ | apply Gr.alloc | apply Gr.drewN | apply Gr.drew | apply Gr.iter | (refine Gr.setCell ?_ (by simp) _) | (refine Gr.trans ?_ (by assumption)))))).mono ?_; rintro e t3 ⟨rfl, ht3⟩)
                          | (go_at_call 29; refine (left07_any g7 (rs.map Piece.op) _ (Wk7.gr (w := wr) (W7.wk HS.out.ref hgr) (by repeat (with_reducible first | assumption | exact Gr.refl _ | apply Gr.alloc | apply Gr.drewN | apply Gr.drew | apply Gr.iter | (refine Gr.setCell ?_ (by simp) _) | (refine Gr.trans ?_ (by assumption))))) (HS.out.can).ok.ops).mono ?_; rw [HKP.out.2]; rintro e t4 ⟨rfl, ht4⟩; have bt4 := (hB7r.gr (w' := t4) (by repeat (with_reducible first | assumption | exact Gr.refl _ | apply Gr.alloc | apply Gr.drewN | apply Gr.drew | apply Gr.iter | (refine Gr.setCell ?_ (by simp) _) | (refine Gr.trans ?_ (by assumption))))).cell)
                          | (go_at_call 30; refine (wdone_any gw lb' rs _ (WalkX.gr (w := wr) HS.out.walk (by repeat (with_reducible first | assumption | exact Gr.refl _ | apply Gr.alloc | apply Gr.drewN | apply Gr.drew | apply Gr.iter | (refine Gr.setCell ?_ (by simp) _) | (refine Gr.trans ?_ (by assumption)))))).mono ?_; rw [HD7.out]; rintro e t5 ⟨rfl, ht5⟩; have bt5 := (hB7r.gr (w' := t5) (by repeat (with_reducible first | assumption | exact Gr.refl _ | apply Gr.alloc | apply Gr.drewN | apply Gr.drew | apply Gr.iter | (refine Gr.setCell ?_ (by simp) _) | (refine Gr.trans ?_ (by assumption))))).cell))
                all_goals go_wp2
                all_goals go_roundw
                all_goals first
                  | exact ⟨k + 1, lb', rs, by omega, by go_num, HS.out.to (by repeat (with_reducible first | assumption | exact Gr.refl _ | apply Gr.alloc | apply Gr.drewN | apply Gr.drew | apply Gr.iter | (refine Gr.setCell ?_ (by simp) _) | (refine Gr.trans ?_ (by assumption)))), hrl, hrt⟩
                  | (simp [intOf]; omega)
              · obtain ⟨q1, q2, q3, q4⟩ := next_ok hS.can.ok (n := nn) (by omega)
                obtain ⟨hc2, hts2, -⟩ := hS.can.next (n := nn) (by omega)
                have hlen2 := next_len rs nn
                obtain ⟨P, hP⟩ : ∃ P, nextP rs nn = P := ⟨_, rfl⟩
                rw [hP] at q1 q2 q3 q4 hc2 hts2 hlen2
                obtain ⟨p, r⟩ := P
                simp only at q1 q2 q3 q4 hc2 hts2 hlen2
                have hn1' : 1 ≤ nn := by omega
                have HP := Lib.hid hP; clear hP
                obtain ⟨ok, ot, ova, ovb, ovt, oc, oats, hop⟩ := op_dest' p
                have hgood : p.good := by rw [← q1.2]; exact good_of q1.1
                have hats := op_attrs p
                have hrl2 := rlen_piece q1
                have hok0 : ok ≠ 0 := by have := ok_kind q1.1; rw [hop] at this; dsimp only at this; omega
                rw [hop] at hats hrl2
                obtain ⟨M, hM⟩ : ∃ M, p.len = M := ⟨_, rfl⟩
                rw [hM] at hrl2
                have HM := Lib.hid (And.intro hM hrl2); clear hM hrl2 q2 q3 q4
                have HOP := Lib.hid hop
                have hats' := hats.symm
                clear hS hn1
                go_wp2_with (first
                  | (go_at_call 19; refine (wnext_int gw lb' rs nn _ (hE4.gr (Gr.trans hgr (by repeat (with_reducible first | assumption | exact Gr.refl _ | apply Gr.alloc | apply Gr.drewN | apply Gr.drew | apply Gr.iter | (refine Gr.setCell ?_ (by simp) _) | (refine Gr.trans ?_ (by assumption)))))) (WalkX.gr (w := wr) HS.out.walk (by repeat (with_reducible first | assumption | exact Gr.refl _ | apply Gr.alloc | apply Gr.drewN | apply Gr.drew | apply Gr.iter | (refine Gr.setCell ?_ (by simp) _) | (refine Gr.trans ?_ (by assumption))))) HS.out.can.ok hn1' hnn).mono ?_; rw [HP.out]; rintro e y1 ⟨pv, lb2, rfl, hp5, hY1, hl5, hk5⟩; have hgy1 : Gr w4 y1 := Gr.kgs (Gr.trans hgr (by repeat (with_reducible first | assumption | exact Gr.refl _ | apply Gr.alloc | apply Gr.drewN | apply Gr.drew | apply Gr.iter | (refine Gr.setCell ?_ (by simp) _) | (refine Gr.trans ?_ (by assumption))))) hk5 (fun b h => h ▸ HS.out.gw0); have Bx1 := (Blk.new wr 35 #[.int .i64 0, .int .i64 nn]).kg hk5 (by decide); have bx1c := Bx1.cell; have bx1z := Bx1.lt; have hR1 := W7.tn (W7.gr HS.out.ref ((Gr.refl wr).alloc _)) (Tn.of_kg (Wr := fun b t => b = gw ∧ t = some 124) hk5 (fun b t hb ht => ⟨hb, by unfold wkT at ht; rw [beq_iff_eq.1 ht]⟩)) (fun b h => absurd (Option.some.inj h.2) (by decide)) (fun b h => absurd (Option.some.inj h.2) (by decide)) (fun h => absurd (Option.some.inj h.2) (by decide)); obtain ⟨T, y, fl, hpv, hml, hel, hcl⟩ := len_meth hp5; subst hpv; rw [HM.out.1] at hcl; have HCL := Lib.hid hcl; clear hcl)
                  | (go_at_call 20; refine (next07_any w4 g7 nn _ rs hn1' hR1 hgy1 HS.out.can HS.out.g70).mono ?_; rw [HP.out, HOP.out]; rintro e y2 ⟨s2, rfl, ha2, hR2, hT2⟩; obtain ⟨s2a, s2n, s2c, rfl, -⟩ := RdList.sl ha2; dsimp only [opV]; have hY2 := WalkX.tn hY1 hT2 (fun b h => absurd (Option.some.inj h.2) (by decide)) (fun b h => absurd (Option.some.inj h.2) (by decide)) (fun h => absurd (Option.some.inj h.2) (by decide)); have hp2 := PieceV.tnA hp5 hT2 (fun b h => absurd (Option.some.inj h.2) (by decide)); have hgy2 : Gr w4 y2 := Gr.tn hgy1 hT2 (fun b t h => by have := h.1; have := HS.out.g70; omega); have B46 := Blk.new y2 46 #[.int .i64 ok, .string ot, .int .i64 ova, .int .i64 ovb, .string ovt, .int .i64 oc, .slice s2a s2n s2c])
                  | (go_at_call 21; have hnum := num_any 0 _ (hE94.gr (Gr.trans hgy2 ((Gr.refl y2).alloc (.cells #[.int .i64 ok, .string ot, .int .i64 ova, .int .i64 ovb, .string ovt, .int .i64 oc, .slice s2a s2n s2c] 46)))) (by omega) (by omega); rw [errOf_zero] at hnum; refine hnum.mono ?_; rintro e y3 ⟨rfl, hy3⟩; have B3 := B46.gr hy3; have b3c := B3.cell; have b3z := B3.lt)
                  | (go_at_call 22; refine (is07_any p (.iface T y) ok ot ova ovb ovt oc (.slice s2a s2n s2c) oats _ (PieceV.gr (w := y2) hp2 (by repeat (with_reducible first | assumption | exact Gr.refl _ | apply Gr.alloc | apply Gr.drewN | apply Gr.drew | apply Gr.iter | (refine Gr.setCell ?_ (by simp) _) | (refine Gr.trans ?_ (by assumption))))) hgood (RdAttrs.gr (w := y2) ha2 (by repeat (with_reducible first | assumption | exact Gr.refl _ | apply Gr.alloc | apply Gr.drewN | apply Gr.drew | apply Gr.iter | (refine Gr.setCell ?_ (by simp) _) | (refine Gr.trans ?_ (by assumption))))) hok0).mono ?_; rw [decide_eq_true HOP.out]; rintro e y4 ⟨rfl, hy4⟩))
                go_region_held3 (fun W => W.cell? ⟨y2.heap.size, 0, none⟩ = some (.int .i64 ok) ∧ W.cell? ⟨y2.heap.size, 1, none⟩ = some (.string ot) ∧ W.cell? ⟨y2.heap.size, 2, none⟩ = some (.int .i64 ova) ∧ W.cell? ⟨y2.heap.size, 3, none⟩ = some (.int .i64 ovb) ∧ W.cell? ⟨y2.heap.size, 4, none⟩ = some (.string ovt) ∧ W.cell? ⟨y2.heap.size, 5, none⟩ = some (.int .i64 oc) ∧ W.cell? ⟨y2.heap.size, 6, none⟩ = some (.slice s2a s2n s2c))
                  (first | exact ⟨(B3.gr (by repeat (with_reducible first | assumption | exact Gr.refl _ | apply Gr.alloc | apply Gr.drewN | apply Gr.drew | apply Gr.iter | (refine Gr.setCell ?_ (by simp) _) | (refine Gr.trans ?_ (by assumption))))).cell 0, (B3.gr (by repeat (with_reducible first | assumption | exact Gr.refl _ | apply Gr.alloc | apply Gr.drewN | apply Gr.drew | apply Gr.iter | (refine Gr.setCell ?_ (by simp) _) | (refine Gr.trans ?_ (by assumption))))).cell 1, (B3.gr (by repeat (with_reducible first | assumption | exact Gr.refl _ | apply Gr.alloc | apply Gr.drewN | apply Gr.drew | apply Gr.iter | (refine Gr.setCell ?_ (by simp) _) | (refine Gr.trans ?_ (by assumption))))).cell 2, (B3.gr (by repeat (with_reducible first | assumption | exact Gr.refl _ | apply Gr.alloc | apply Gr.drewN | apply Gr.drew | apply Gr.iter | (refine Gr.setCell ?_ (by simp) _) | (refine Gr.trans ?_ (by assumption))))).cell 3, (B3.gr (by repeat (with_reducible first | assumption | exact Gr.refl _ | apply Gr.alloc | apply Gr.drewN | apply Gr.drew | apply Gr.iter | (refine Gr.setCell ?_ (by simp) _) | (refine Gr.trans ?_ (by assumption))))).cell 4, (B3.gr (by repeat (with_reducible first | assumption | exact Gr.refl _ | apply Gr.alloc | apply Gr.drewN | apply Gr.drew | apply Gr.iter | (refine Gr.setCell ?_ (by simp) _) | (refine Gr.trans ?_ (by assumption))))).cell 5, (B3.gr (by repeat (with_reducible first | assumption | exact Gr.refl _ | apply Gr.alloc | apply Gr.drewN | apply Gr.drew | apply Gr.iter | (refine Gr.setCell ?_ (by simp) _) | (refine Gr.trans ?_ (by assumption))))).cell 6⟩ | go_keep)
                  (first
                    | (go_at_fn fl; refine (HCL.out _).mono ?_; rintro e y5 ⟨rfl, hy5⟩)
                    | (go_at_call 23; refine (w2_any ok ot ova ovb ovt oc _ oats _ (RdAttrs.gr (w := y2) ha2 (by repeat (with_reducible first | assumption | exact Gr.refl _ | apply Gr.alloc | apply Gr.drewN | apply Gr.drew | apply Gr.iter | (refine Gr.setCell ?_ (by simp) _) | (refine Gr.trans ?_ (by assumption))))) (by have := hp2.sz.1; rw [HOP.out] at this; exact this)).mono ?_; rw [HM.out.2]; rintro e y6 ⟨rfl, hy6⟩))
                all_goals go_wp2
                clear hgr
                have hgr := hgy2
                have hR2' : W7 w4 y2 g7 (r.map Piece.op) := hR2
                have hY2' : WalkX y2 gw lb2 r := hY2
                obtain ⟨sl7, hB7r, hL7⟩ := id (hR2')
                have hr7 := hL7.ops hgr
                obtain ⟨a7, n7, c7, rfl, -, -, -, hn7⟩ := hr7.sl
                obtain ⟨D7, hD7⟩ : ∃ D7, decide (r = []) = D7 := ⟨_, rfl⟩
                have hn7' : n7 = r.length := by have := hn7.out; rw [List.length_map] at this; exact this.symm
                have e7a : decide ((n7 : Int) = 0) = D7 := by rw [← hD7, hn7']; cases r <;> simp <;> omega
                have e7b : ((n7 : Int) == 0) = D7 := by rw [← e7a]; rfl
                have e7c : (n7 == 0) = D7 := by rw [← hD7, hn7']; cases r <;> simp
                have e7d : decide (n7 = 0) = D7 := by rw [← hD7, hn7']; cases r <;> simp
                have HKP := Lib.hid (And.intro (kind_ops r) (left_ops (hc2).ok))
                clear hn7'
                have HD7 := Lib.hid hD7; clear hD7
                go_region_held3 (fun W => W.cell? ⟨g7, 0, none⟩ = some (.slice a7 n7 c7)) (first | exact (hB7r.gr (by repeat (with_reducible first | assumption | exact Gr.refl _ | apply Gr.alloc | apply Gr.drewN | apply Gr.drew | apply Gr.iter | (refine Gr.setCell ?_ (by simp) _) | (refine Gr.trans ?_ (by assumption))))).cell 0 | go_keep) (first
                | (go_at_call 26; refine (wkindw_any gw lb2 r _ (WalkX.gr (w := y2) hY2' (by repeat (with_reducible first | assumption | exact Gr.refl _ | apply Gr.alloc | apply Gr.drewN | apply Gr.drew | apply Gr.iter | (refine Gr.setCell ?_ (by simp) _) | (refine Gr.trans ?_ (by assumption)))))).mono ?_; rintro e t1 ⟨rfl, ht1⟩)
                | (go_at_call 27; refine (kind07_any g7 (r.map Piece.op) _ (Wk7.gr (w := y2) (W7.wk hR2' hgr) (by repeat (with_reducible first | assumption | exact Gr.refl _ | apply Gr.alloc | apply Gr.drewN | apply Gr.drew | apply Gr.iter | (refine Gr.setCell ?_ (by simp) _) | (refine Gr.trans ?_ (by assumption)))))).mono ?_; rw [HKP.out.1]; rintro e t2 ⟨rfl, ht2⟩)
                | (go_at_call 28; refine (wleft_any gw lb2 r _ (WalkX.gr (w := y2) hY2' (by repeat (with_reducible first | assumption | exact Gr.refl _ | apply Gr.alloc | apply Gr.drewN | apply Gr.drew | apply Gr.iter | (refine Gr.setCell ?_ (by simp) _) | (refine Gr.trans ?_ (by assumption)))))).mono ?_; rintro e t3 ⟨rfl, ht3⟩)
                | (go_at_call 29; refine (left07_any g7 (r.map Piece.op) _ (Wk7.gr (w := y2) (W7.wk hR2' hgr) (by repeat (with_reducible first | assumption | exact Gr.refl _ | apply Gr.alloc | apply Gr.drewN | apply Gr.drew | apply Gr.iter | (refine Gr.setCell ?_ (by simp) _) | (refine Gr.trans ?_ (by assumption))))) (hc2).ok.ops).mono ?_; rw [HKP.out.2]; rintro e t4 ⟨rfl, ht4⟩; have bt4 := (hB7r.gr (w' := t4) (by repeat (with_reducible first | assumption | exact Gr.refl _ | apply Gr.alloc | apply Gr.drewN | apply Gr.drew | apply Gr.iter | (refine Gr.setCell ?_ (by simp) _) | (refine Gr.trans ?_ (by assumption))))).cell)
                | (go_at_call 30; refine (wdone_any gw lb2 r _ (WalkX.gr (w := y2) hY2' (by repeat (with_reducible first | assumption | exact Gr.refl _ | apply Gr.alloc | apply Gr.drewN | apply Gr.drew | apply Gr.iter | (refine Gr.setCell ?_ (by simp) _) | (refine Gr.trans ?_ (by assumption)))))).mono ?_; rw [HD7.out]; rintro e t5 ⟨rfl, ht5⟩; have bt5 := (hB7r.gr (w' := t5) (by repeat (with_reducible first | assumption | exact Gr.refl _ | apply Gr.alloc | apply Gr.drewN | apply Gr.drew | apply Gr.iter | (refine Gr.setCell ?_ (by simp) _) | (refine Gr.trans ?_ (by assumption))))).cell))
                all_goals go_wp2
                all_goals go_roundw
                all_goals first
                  | exact ⟨k + 1, lb2, r, by omega, by go_num, WpM.to (wr := y2) ⟨hgy2, hY2, hR2, hc2, HS.out.gw0, HS.out.g70⟩ (by repeat (with_reducible first | assumption | exact Gr.refl _ | apply Gr.alloc | apply Gr.drewN | apply Gr.drew | apply Gr.iter | (refine Gr.setCell ?_ (by simp) _) | (refine Gr.trans ?_ (by assumption)))), by omega, by omega⟩
                  | (simp [intOf]; omega)
            · by_cases hK2 : K = 2
              · subst hK2
                clear hS
                obtain ⟨sl7, hB7r, hL7⟩ := id (HS.out.ref)
                have hr7 := hL7.ops hgr
                obtain ⟨a7, n7, c7, rfl, -, -, -, hn7⟩ := hr7.sl
                obtain ⟨D7, hD7⟩ : ∃ D7, decide (rs = []) = D7 := ⟨_, rfl⟩
                have hn7' : n7 = rs.length := by have := hn7.out; rw [List.length_map] at this; exact this.symm
                have e7a : decide ((n7 : Int) = 0) = D7 := by rw [← hD7, hn7']; cases rs <;> simp <;> omega
                have e7b : ((n7 : Int) == 0) = D7 := by rw [← e7a]; rfl
                have e7c : (n7 == 0) = D7 := by rw [← hD7, hn7']; cases rs <;> simp
                have e7d : decide (n7 = 0) = D7 := by rw [← hD7, hn7']; cases rs <;> simp
                have HKP := Lib.hid (And.intro (kind_ops rs) (left_ops (HS.out.can).ok))
                clear hn7'
                have HD7 := Lib.hid hD7; clear hD7
                go_wp2
                go_region_held3 (fun W => W.cell? ⟨g7, 0, none⟩ = some (.slice a7 n7 c7)) (first | exact (hB7r.gr (by repeat (with_reducible first | assumption | exact Gr.refl _ | apply Gr.alloc | apply Gr.drewN | apply Gr.drew | apply Gr.iter | (refine Gr.setCell ?_ (by simp) _) | (refine Gr.trans ?_ (by assumption))))).cell 0 | go_keep) (first | (go_at_call 25; refine (wrest_any gw lb' rs _ (hE4.gr (Gr.trans hgr (by repeat (with_reducible first | assumption | exact Gr.refl _ | apply Gr.alloc | apply Gr.drewN | apply Gr.drew | apply Gr.iter | (refine Gr.setCell ?_ (by simp) _) | (refine Gr.trans ?_ (by assumption)))))) (WalkX.gr (w := wr) HS.out.walk (by repeat (with_reducible first | assumption | exact Gr.refl _ | apply Gr.alloc | apply Gr.drewN | apply Gr.drew | apply Gr.iter | (refine Gr.setCell ?_ (by simp) _) | (refine Gr.trans ?_ (by assumption))))) HS.out.can HR.out.1 HR.out.2).mono ?_; rintro e u1 ⟨v2, rfl, hd2, hu1⟩; obtain ⟨g2, sl2, hv2, hbr2⟩ := hd2; subst hv2; have hD2 : DeltaR u1 (.pointer (some ⟨g2, 0, none⟩)) rs := ⟨g2, sl2, rfl, hbr2⟩; clear hbr2) | (go_at_call 24; refine (madeis_any rs (rs.map Piece.op) _ _ _ (DeltaR.gr (w := u1) hD2 (by repeat (with_reducible first | assumption | exact Gr.refl _ | apply Gr.alloc | apply Gr.drewN | apply Gr.drew | apply Gr.iter | (refine Gr.setCell ?_ (by simp) _) | (refine Gr.trans ?_ (by assumption))))) HS.out.can.ok.good (RdOps.gr (w := wr) hr7 (by repeat (with_reducible first | assumption | exact Gr.refl _ | apply Gr.alloc | apply Gr.drewN | apply Gr.drew | apply Gr.iter | (refine Gr.setCell ?_ (by simp) _) | (refine Gr.trans ?_ (by assumption)))))).mono ?_; rw [decide_eq_true (rfl : rs.map Piece.op = rs.map Piece.op)]; rintro e u2 ⟨rfl, hu2⟩))
                all_goals go_wp2
                all_goals go_region_held3 (fun W => W.cell? ⟨g7, 0, none⟩ = some (.slice a7 n7 c7)) (first | exact (hB7r.gr (by repeat (with_reducible first | assumption | exact Gr.refl _ | apply Gr.alloc | apply Gr.drewN | apply Gr.drew | apply Gr.iter | (refine Gr.setCell ?_ (by simp) _) | (refine Gr.trans ?_ (by assumption))))).cell 0 | go_keep) (first
                          | (go_at_call 26; refine (wkindw_any gw lb' rs _ (WalkX.gr (w := wr) HS.out.walk (by repeat (with_reducible first | assumption | exact Gr.refl _ | apply Gr.alloc | apply Gr.drewN | apply Gr.drew | apply Gr.iter | (refine Gr.setCell ?_ (by simp) _) | (refine Gr.trans ?_ (by assumption)))))).mono ?_; rintro e t1 ⟨rfl, ht1⟩)
                          | (go_at_call 27; refine (kind07_any g7 (rs.map Piece.op) _ (Wk7.gr (w := wr) (W7.wk HS.out.ref hgr) (by repeat (with_reducible first | assumption | exact Gr.refl _ | apply Gr.alloc | apply Gr.drewN | apply Gr.drew | apply Gr.iter | (refine Gr.setCell ?_ (by simp) _) | (refine Gr.trans ?_ (by assumption)))))).mono ?_; rw [HKP.out.1]; rintro e t2 ⟨rfl, ht2⟩)
                          | (go_at_call 28; refine (wleft_any gw lb' rs _ (WalkX.gr (w := wr) HS.out.walk (by repeat (with_reducible first | assumption | exact Gr.refl _ | apply Gr.alloc | apply Gr.drewN | apply Gr.drew | apply Gr.iter | (refine Gr.setCell ?_ (by simp) _) | (refine Gr.trans ?_ (by assumption)))))).mono ?_; rintro e t3 ⟨rfl, ht3⟩)
                          | (go_at_call 29; refine (left07_any g7 (rs.map Piece.op) _ (Wk7.gr (w := wr) (W7.wk HS.out.ref hgr) (by repeat (with_reducible first | assumption | exact Gr.refl _ | apply Gr.alloc | apply Gr.drewN | apply Gr.drew | apply Gr.iter | (refine Gr.setCell ?_ (by simp) _) | (refine Gr.trans ?_ (by assumption))))) (HS.out.can).ok.ops).mono ?_; rw [HKP.out.2]; rintro e t4 ⟨rfl, ht4⟩; have bt4 := (hB7r.gr (w' := t4) (by repeat (with_reducible first | assumption | exact Gr.refl _ | apply Gr.alloc | apply Gr.drewN | apply Gr.drew | apply Gr.iter | (refine Gr.setCell ?_ (by simp) _) | (refine Gr.trans ?_ (by assumption))))).cell)
                          | (go_at_call 30; refine (wdone_any gw lb' rs _ (WalkX.gr (w := wr) HS.out.walk (by repeat (with_reducible first | assumption | exact Gr.refl _ | apply Gr.alloc | apply Gr.drewN | apply Gr.drew | apply Gr.iter | (refine Gr.setCell ?_ (by simp) _) | (refine Gr.trans ?_ (by assumption)))))).mono ?_; rw [HD7.out]; rintro e t5 ⟨rfl, ht5⟩; have bt5 := (hB7r.gr (w' := t5) (by repeat (with_reducible first | assumption | exact Gr.refl _ | apply Gr.alloc | apply Gr.drewN | apply Gr.drew | apply Gr.iter | (refine Gr.setCell ?_ (by simp) _) | (refine Gr.trans ?_ (by assumption))))).cell))
                all_goals go_wp2
                go_roundw
                case rel => exact ⟨k + 1, lb', rs, by omega, by go_num, HS.out.to (by repeat (with_reducible first | assumption | exact Gr.refl _ | apply Gr.alloc | apply Gr.drewN | apply Gr.drew | apply Gr.iter | (refine Gr.setCell ?_ (by simp) _) | (refine Gr.trans ?_ (by assumption)))), hrl, hrt⟩
                case measure => simp [intOf]; omega
              · have k0 : (K == 0) = false := by simpa using hK0
                have k2 : (K == 2) = false := by simpa using hK2
                clear hS
                obtain ⟨sl7, hB7r, hL7⟩ := id (HS.out.ref)
                have hr7 := hL7.ops hgr
                obtain ⟨a7, n7, c7, rfl, -, -, -, hn7⟩ := hr7.sl
                obtain ⟨D7, hD7⟩ : ∃ D7, decide (rs = []) = D7 := ⟨_, rfl⟩
                have hn7' : n7 = rs.length := by have := hn7.out; rw [List.length_map] at this; exact this.symm
                have e7a : decide ((n7 : Int) = 0) = D7 := by rw [← hD7, hn7']; cases rs <;> simp <;> omega
                have e7b : ((n7 : Int) == 0) = D7 := by rw [← e7a]; rfl
                have e7c : (n7 == 0) = D7 := by rw [← hD7, hn7']; cases rs <;> simp
                have e7d : decide (n7 = 0) = D7 := by rw [← hD7, hn7']; cases rs <;> simp
                have HKP := Lib.hid (And.intro (kind_ops rs) (left_ops (HS.out.can).ok))
                clear hn7'
                have HD7 := Lib.hid hD7; clear hD7
                go_wp2
                go_region_held3 (fun W => W.cell? ⟨g7, 0, none⟩ = some (.slice a7 n7 c7)) (first | exact (hB7r.gr (by repeat (with_reducible first | assumption | exact Gr.refl _ | apply Gr.alloc | apply Gr.drewN | apply Gr.drew | apply Gr.iter | (refine Gr.setCell ?_ (by simp) _) | (refine Gr.trans ?_ (by assumption))))).cell 0 | go_keep) (first
                | (go_at_call 26; refine (wkindw_any gw lb' rs _ (WalkX.gr (w := wr) HS.out.walk (by repeat (with_reducible first | assumption | exact Gr.refl _ | apply Gr.alloc | apply Gr.drewN | apply Gr.drew | apply Gr.iter | (refine Gr.setCell ?_ (by simp) _) | (refine Gr.trans ?_ (by assumption)))))).mono ?_; rintro e t1 ⟨rfl, ht1⟩)
                | (go_at_call 27; refine (kind07_any g7 (rs.map Piece.op) _ (Wk7.gr (w := wr) (W7.wk HS.out.ref hgr) (by repeat (with_reducible first | assumption | exact Gr.refl _ | apply Gr.alloc | apply Gr.drewN | apply Gr.drew | apply Gr.iter | (refine Gr.setCell ?_ (by simp) _) | (refine Gr.trans ?_ (by assumption)))))).mono ?_; rw [HKP.out.1]; rintro e t2 ⟨rfl, ht2⟩)
                | (go_at_call 28; refine (wleft_any gw lb' rs _ (WalkX.gr (w := wr) HS.out.walk (by repeat (with_reducible first | assumption | exact Gr.refl _ | apply Gr.alloc | apply Gr.drewN | apply Gr.drew | apply Gr.iter | (refine Gr.setCell ?_ (by simp) _) | (refine Gr.trans ?_ (by assumption)))))).mono ?_; rintro e t3 ⟨rfl, ht3⟩)
                | (go_at_call 29; refine (left07_any g7 (rs.map Piece.op) _ (Wk7.gr (w := wr) (W7.wk HS.out.ref hgr) (by repeat (with_reducible first | assumption | exact Gr.refl _ | apply Gr.alloc | apply Gr.drewN | apply Gr.drew | apply Gr.iter | (refine Gr.setCell ?_ (by simp) _) | (refine Gr.trans ?_ (by assumption))))) (HS.out.can).ok.ops).mono ?_; rw [HKP.out.2]; rintro e t4 ⟨rfl, ht4⟩; have bt4 := (hB7r.gr (w' := t4) (by repeat (with_reducible first | assumption | exact Gr.refl _ | apply Gr.alloc | apply Gr.drewN | apply Gr.drew | apply Gr.iter | (refine Gr.setCell ?_ (by simp) _) | (refine Gr.trans ?_ (by assumption))))).cell)
                | (go_at_call 30; refine (wdone_any gw lb' rs _ (WalkX.gr (w := wr) HS.out.walk (by repeat (with_reducible first | assumption | exact Gr.refl _ | apply Gr.alloc | apply Gr.drewN | apply Gr.drew | apply Gr.iter | (refine Gr.setCell ?_ (by simp) _) | (refine Gr.trans ?_ (by assumption)))))).mono ?_; rw [HD7.out]; rintro e t5 ⟨rfl, ht5⟩; have bt5 := (hB7r.gr (w' := t5) (by repeat (with_reducible first | assumption | exact Gr.refl _ | apply Gr.alloc | apply Gr.drewN | apply Gr.drew | apply Gr.iter | (refine Gr.setCell ?_ (by simp) _) | (refine Gr.trans ?_ (by assumption))))).cell))
                go_wp2
                go_roundw
                case rel => exact ⟨k + 1, lb', rs, by omega, by go_num, HS.out.to (by repeat (with_reducible first | assumption | exact Gr.refl _ | apply Gr.alloc | apply Gr.drewN | apply Gr.drew | apply Gr.iter | (refine Gr.setCell ?_ (by simp) _) | (refine Gr.trans ?_ (by assumption)))), hrl, hrt⟩
                case measure => simp [intOf]; omega
          · have hor := opsum_ps hS.can.ok
            have HR := Lib.hid (show opsum (rs.map Piece.op) ≤ 1099511627776 ∧ 2 * rs.length + 2 ≤ 1099511627776 from ⟨by have := LP.out; omega, by have := LP.out.1; omega⟩)
            clear hor hS
            obtain ⟨sl7, hB7r, hL7⟩ := id (HS.out.ref)
            have hr7 := hL7.ops hgr
            obtain ⟨a7, n7, c7, rfl, -, -, -, hn7⟩ := hr7.sl
            obtain ⟨D7, hD7⟩ : ∃ D7, decide (rs = []) = D7 := ⟨_, rfl⟩
            have hn7' : n7 = rs.length := by have := hn7.out; rw [List.length_map] at this; exact this.symm
            have e7a : decide ((n7 : Int) = 0) = D7 := by rw [← hD7, hn7']; cases rs <;> simp <;> omega
            have e7b : ((n7 : Int) == 0) = D7 := by rw [← e7a]; rfl
            have e7c : (n7 == 0) = D7 := by rw [← hD7, hn7']; cases rs <;> simp
            have e7d : decide (n7 = 0) = D7 := by rw [← hD7, hn7']; cases rs <;> simp
            have HKP := Lib.hid (And.intro (kind_ops rs) (left_ops (HS.out.can).ok))
            clear hn7'
            have HD7 := Lib.hid hD7; clear hD7
            go_wp2
            go_region_held3 (fun W => W.cell? ⟨g7, 0, none⟩ = some (.slice a7 n7 c7)) (first | exact (hB7r.gr (by repeat (with_reducible first | assumption | exact Gr.refl _ | apply Gr.alloc | apply Gr.drewN | apply Gr.drew | apply Gr.iter | (refine Gr.setCell ?_ (by simp) _) | (refine Gr.trans ?_ (by assumption))))).cell 0 | go_keep) (first | (go_at_call 24; have _h := hu2; refine (madeis_any ps (ps.map Piece.op) _ _ _ (DeltaR.gr (w := w4) hD4.out (Gr.trans hgr (by repeat (with_reducible first | assumption | exact Gr.refl _ | apply Gr.alloc | apply Gr.drewN | apply Gr.drew | apply Gr.iter | (refine Gr.setCell ?_ (by simp) _) | (refine Gr.trans ?_ (by assumption)))))) hp.ok.good (RdOps.gr (w := w4) hO4.out (Gr.trans hgr (by repeat (with_reducible first | assumption | exact Gr.refl _ | apply Gr.alloc | apply Gr.drewN | apply Gr.drew | apply Gr.iter | (refine Gr.setCell ?_ (by simp) _) | (refine Gr.trans ?_ (by assumption))))))).mono ?_; rw [decide_eq_true (rfl : ps.map Piece.op = ps.map Piece.op)]; rintro e u3 ⟨rfl, hu3⟩) | (go_at_call 25; refine (wrest_any gw lb' rs _ (hE4.gr (Gr.trans hgr (by repeat (with_reducible first | assumption | exact Gr.refl _ | apply Gr.alloc | apply Gr.drewN | apply Gr.drew | apply Gr.iter | (refine Gr.setCell ?_ (by simp) _) | (refine Gr.trans ?_ (by assumption)))))) (WalkX.gr (w := wr) HS.out.walk (by repeat (with_reducible first | assumption | exact Gr.refl _ | apply Gr.alloc | apply Gr.drewN | apply Gr.drew | apply Gr.iter | (refine Gr.setCell ?_ (by simp) _) | (refine Gr.trans ?_ (by assumption))))) HS.out.can HR.out.1 HR.out.2).mono ?_; rintro e u1 ⟨v2, rfl, hd2, hu1⟩; obtain ⟨g2, sl2, hv2, hbr2⟩ := hd2; subst hv2; have hD2 : DeltaR u1 (.pointer (some ⟨g2, 0, none⟩)) rs := ⟨g2, sl2, rfl, hbr2⟩; clear hbr2) | (go_at_call 24; refine (madeis_any rs (rs.map Piece.op) _ _ _ (DeltaR.gr (w := u1) hD2 (by repeat (with_reducible first | assumption | exact Gr.refl _ | apply Gr.alloc | apply Gr.drewN | apply Gr.drew | apply Gr.iter | (refine Gr.setCell ?_ (by simp) _) | (refine Gr.trans ?_ (by assumption))))) HS.out.can.ok.good (RdOps.gr (w := wr) hr7 (by repeat (with_reducible first | assumption | exact Gr.refl _ | apply Gr.alloc | apply Gr.drewN | apply Gr.drew | apply Gr.iter | (refine Gr.setCell ?_ (by simp) _) | (refine Gr.trans ?_ (by assumption)))))).mono ?_; rw [decide_eq_true (rfl : rs.map Piece.op = rs.map Piece.op)]; rintro e u2 ⟨rfl, hu2⟩))
            all_goals go_wp2
            go_ret
            exact ⟨rfl, Gr.trans hgw4 (Gr.trans hgr (by repeat (with_reducible first | assumption | exact Gr.refl _ | apply Gr.alloc | apply Gr.drewN | apply Gr.drew | apply Gr.iter | (refine Gr.setCell ?_ (by simp) _) | (refine Gr.trans ?_ (by assumption)))))⟩
end Ve
namespace Ve
open Go Go.RowKit Go.Proofs Go.ChangeShapes Go.WideShapes Go.Proofs.YtapolkhdikdjbaaGreatDoor

section
variable {H : Type} {enc : TypeId × Value → H} {W : World} {base : Nat} {sp : Nat → Bool} {held : Bool}
theorem trod_call {fuel : Nat} {cs : List Value} {x : DataW H × List MemPlace} (h : DataW.trod enc Tryz.prog W base sp held fuel 35 cs = some x) : ∃ o : Int × Int, ScrR W o cs := by
  obtain ⟨xs, n, _, hx, hl, hxs, hf⟩ := DataW.trod_struct Tryz.underlying35 h
  have hC : Tryz.prog.cellsOf 35 = 2 := by kernel_rfl
  have c2 : Tryz.prog.cellsOf 3 = 1 := by kernel_rfl
  rw [hC] at hl
  obtain ⟨v0, v1, rfl⟩ := len2 hl
  obtain ⟨y0, y1, rfl⟩ := len2 (hxs : xs.length = 2)
  have h0 := hf 0 _ rfl
  have h1 := hf 1 _ rfl
  simp [c2] at h0 h1
  obtain ⟨k, e0, f0, -⟩ := DataW.trod_int Tryz.underlying3 h0
  obtain ⟨c, e1, f1, wf⟩ := DataW.trod_int Tryz.underlying3 h1
  injection e0 with e0; injection e1 with e1
  subst e0; subst e1
  refine ⟨(k, c), rfl, ?_⟩
  simp only [Lit.wf, Bool.and_eq_true, decide_eq_true_eq] at wf
  exact Int.le_trans wf.2 (by decide)
theorem trod_scr {fuel : Nat} {v : Value} {x : DataW H × List MemPlace} (h : DataW.trod enc Tryz.prog W base sp held fuel 23 [v] = some x) (hb : Rows.uptoBulk x.1 ≤ 1048576) : ∃ l, RdScr W v l := by
  obtain ⟨l, hl, -⟩ := trod_rows ScrR 2 (fun _ : Int × Int => 0) Tryz.underlying23 (by kernel_rfl) (by omega) 1048576 (by omega) (fun fuel cs y h hb => by
    obtain ⟨o, ho⟩ := trod_call h
    exact ⟨o, ho, by have := bulk_one y.1; omega⟩) h hb
  exact ⟨l, hl⟩
end
theorem walkPlays_law {ea : Nat → Addr} (l : List Op) (v : Value) (ls : List (Int × Int)) (vl : Value) (w : World) (hE : Env19 ea w) (hl : RdOps w v l) (hT : opsum l ≤ 1048576) (hN : l.length ≤ 1048576) (hls : RdScr w vl ls) :
    Calls Tryz.prog 3 #[v, vl] w fun e w' => e = .returned (.bool true) ∧ Gr w w' := walkPlays_any l v ls vl w hE hl hT hN hls
end Ve
