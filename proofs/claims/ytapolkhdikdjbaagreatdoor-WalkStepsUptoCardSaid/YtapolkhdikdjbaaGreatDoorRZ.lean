/- Walks: the reference's walker goes on (Walker.Next). -/
import Derived.Test.YtapolkhdikdjbaaGreatDoorRU
set_option linter.all false
namespace Ve
open Go Go.RowKit Go.Proofs

/-- An operation whose attributes lie in the world w0, or in a block of one's own. -/
def OpS (w0 w : World) (x : Op) (cs : List Value) : Prop :=
  ∃ v, cs = [.int .i64 x.kind, .string x.text, .int .i64 x.val.kind, .int .i64 x.val.num, .string x.val.text, .int .i64 x.count, v] ∧ (RdAttrs w0 v x.attrs ∨ OwnA w v x.attrs) ∧ szS x.text ∧ szS x.val.text
theorem OpS.gr {w0 w w' : World} {x : Op} {cs : List Value} (h : OpS w0 w x cs) (g : Gr w w') : OpS w0 w' x cs := by
  obtain ⟨v, e, ha, hs⟩ := h
  exact ⟨v, e, ha.imp id fun h => h.gr g, hs⟩
theorem OpS.tn {Wr : Nat → Option TypeId → Prop} {w0 w w' : World} {x : Op} {cs : List Value} (h : OpS w0 w x cs) (g : Tn Wr w w') (h1 : ∀ b, ¬ Wr b (some 83)) : OpS w0 w' x cs := by
  obtain ⟨v, e, ha, hs⟩ := h
  exact ⟨v, e, ha.imp id fun h => h.tn g fun b _ => h1 b, hs⟩
theorem OpS.opR {w0 w : World} {x : Op} {cs : List Value} (h : OpS w0 w x cs) (g : Gr w0 w) : OpR w x cs := by
  obtain ⟨v, e, ha, hs⟩ := h
  refine ⟨v, e, ?_, hs⟩
  rcases ha with ha | ha
  · exact RdAttrs.gr ha g
  · exact ha.rd
theorem OpS.flat (w0 w : World) (x : Op) (cs : List Value) (h : OpS w0 w x cs) : ∀ u ∈ cs, u.oneCell' = true := by
  obtain ⟨v, rfl, ha, -⟩ := h
  obtain ⟨a, m, c, rfl⟩ : ∃ a m c, v = .slice a m c := by
    rcases ha with ha | ha
    · obtain ⟨a, cap, rfl, -⟩ := RdList.slice ha
      exact ⟨_, _, _, rfl⟩
    · obtain ⟨a, m, c, rfl, -⟩ := ha.1.sl
      exact ⟨_, _, _, rfl⟩
  simp [Value.oneCell']
/-- A walker's list: as it came in, or in a block of its own. -/
def Lst (w0 w : World) (sl : Value) (l : List Op) : Prop := RdOps w0 sl l ∨ (OwnL (OpS w0) 7 w0.heap.size 46 w sl l ∧ l.length ≤ 1099511627776)
theorem Lst.rd {w0 w : World} {sl : Value} {l : List Op} (h : Lst w0 w sl l) (g : Gr w0 w) : RdList (OpS w0) 7 w sl l := by
  rcases h with h | h
  · refine RdList.gr (w := w0) (RdList.weak h fun x cs hx => ?_) (fun _ _ h => OpS.gr (w := w0) h g) g
    obtain ⟨v, e, ha, hs⟩ := hx
    exact ⟨v, e, .inl ha, hs⟩
  · exact OwnL.rd h.1 h.2
theorem Lst.ops {w0 w : World} {sl : Value} {l : List Op} (h : Lst w0 w sl l) (g : Gr w0 w) : RdOps w sl l := (h.rd g).weak fun _ _ hx => hx.opR g
theorem Lst.gr {w0 w w' : World} {sl : Value} {l : List Op} (h : Lst w0 w sl l) (g : Gr w w') : Lst w0 w' sl l :=
  h.imp id fun h => ⟨OwnL.gr (w := w) h.1 (fun _ _ h => OpS.gr (w := w) h g) g, h.2⟩
theorem Lst.tn {Wr : Nat → Option TypeId → Prop} {w0 w w' : World} {sl : Value} {l : List Op} (h : Lst w0 w sl l) (g : Tn Wr w w') (h1 : ∀ b, ¬ Wr b (some 83)) (h2 : ∀ b, ¬ Wr b (some 46)) : Lst w0 w' sl l :=
  h.imp id fun h => ⟨OwnL.tn (w := w) h.1 (fun _ _ h => OpS.tn (w := w) h g h1) g fun b _ => h2 b, h.2⟩
/-- The reference's walker in memory. -/
def W7 (w0 w : World) (g : Nat) (l : List Op) : Prop := ∃ sl, Blk w g 33 #[sl] ∧ Lst w0 w sl l
theorem W7.wk {w0 w : World} {g : Nat} {l : List Op} (h : W7 w0 w g l) (k : Gr w0 w) : Wk7 w g l := by
  obtain ⟨sl, hB, hl⟩ := h
  exact ⟨sl, hB, hl.ops k⟩
theorem W7.gr {w0 w w' : World} {g : Nat} {l : List Op} (h : W7 w0 w g l) (k : Gr w w') : W7 w0 w' g l := by
  obtain ⟨sl, hB, hl⟩ := h
  exact ⟨sl, hB.gr k, hl.gr k⟩
theorem W7.tn {Wr : Nat → Option TypeId → Prop} {w0 w w' : World} {g : Nat} {l : List Op} (h : W7 w0 w g l) (k : Tn Wr w w') (h1 : ∀ b, ¬ Wr b (some 83)) (h2 : ∀ b, ¬ Wr b (some 46)) (h3 : ¬ Wr g (some 33)) : W7 w0 w' g l := by
  obtain ⟨sl, hB, hl⟩ := h
  exact ⟨sl, hB.tn k h3, hl.tn k h1 h2⟩
theorem app_opS (w0 w : World) (base : Nat) (ty : TypeId) {v x : Value} {l m : List Op} (hown : OwnL (OpS w0) 7 base 46 w v l) (hx : RdList (OpS w0) 7 w x m) (hm : l.length + m.length ≤ 1099511627776) (hb : base ≤ w.heap.size) :
    ∃ v' w', (Builtin.append_ #[22, 22] ty #[v, x]).run Tryz.prog w = .ok v' w' ∧ OwnL (OpS w0) 7 base 46 w' v' (l ++ m) ∧ Kg (fun b => v.ownBlock = some b) opT w w' ∧ (v'.ownBlock = v.ownBlock ∨ v'.ownBlock = some w.heap.size) := by
  obtain ⟨xs, ho, hr⟩ := id hown
  have hk : ∀ w', w.grownBy w' v.ownBlock → Kg (fun b => v.ownBlock = some b) opT w w' := fun w' hg => Kg.of_own ho (by decide) (fun b h => h) hg
  obtain ⟨v', w', r1, r2, r3, r4⟩ := run_appL (P := Tryz.prog) (R := OpS w0) w base 22 ty 46 _ 7 88 Tryz.underlying22 info_op rfl (by omega) (by omega) (OpS.flat w0 w) hown hx hm hb
    (fun w' y cs hg h => OpS.tn h (Tn.of_kg (Wr := fun _ t => t = some 46) (hk w' hg) fun b t _ ht => by unfold opT at ht; rw [beq_iff_eq.1 ht]) fun b h => by injection h with h; exact absurd h (by decide))
  exact ⟨v', w', r1, r2, hk w' r3, r4⟩
theorem app_litS (w0 w : World) (ty : TypeId) {o : Op} {sl rs : Value} {r : List Op} (hp : RdAttrs w0 sl o.attrs ∨ OwnA w sl o.attrs) (h1 : szS o.text) (h2 : szS o.val.text) (hr : RdList (OpS w0) 7 w rs r) (hlen : r.length + 1 ≤ 1099511627776) :
    ∃ v' w', (Builtin.append_ #[22, 22] ty #[.slice (some ⟨w.heap.size, 0, none⟩) 1 1, rs]).run Tryz.prog (w.alloc (.cells #[.int .i64 o.kind, .string o.text, .int .i64 o.val.kind, .int .i64 o.val.num, .string o.val.text, .int .i64 o.count, sl] 46)) = .ok v' w' ∧ OwnL (OpS w0) 7 w.heap.size 46 w' v' (o :: r) ∧ Gr w w' := by
  have hg : Gr w (w.alloc (.cells #[.int .i64 o.kind, .string o.text, .int .i64 o.val.kind, .int .i64 o.val.num, .string o.val.text, .int .i64 o.count, sl] 46)) := (Gr.refl w).alloc _
  have ho : (w.alloc (.cells #[.int .i64 o.kind, .string o.text, .int .i64 o.val.kind, .int .i64 o.val.num, .string o.val.text, .int .i64 o.count, sl] 46)).ownsRow w.heap.size 46 7 (.slice (some ⟨w.heap.size, 0, none⟩) 1 1) 1 [.int .i64 o.kind, .string o.text, .int .i64 o.val.kind, .int .i64 o.val.num, .string o.val.text, .int .i64 o.count, sl] :=
    ⟨by simp, .inr ⟨w.heap.size, 1, #[.int .i64 o.kind, .string o.text, .int .i64 o.val.kind, .int .i64 o.val.num, .string o.val.text, .int .i64 o.count, sl], rfl, Nat.le_refl _, heap_alloc_new w _, Nat.le_refl _, by simp [maxLen], by simp, by simp⟩⟩
  have hS : OpS w0 w o [.int .i64 o.kind, .string o.text, .int .i64 o.val.kind, .int .i64 o.val.num, .string o.val.text, .int .i64 o.count, sl] := ⟨sl, rfl, hp, h1, h2⟩
  obtain ⟨v', w', e1, e2, e3⟩ := app_opS w0 _ w.heap.size ty (l := [o]) (m := r) ⟨_, ho, RowsR.one rfl (hS.gr hg)⟩ (RdList.gr (w := w) hr (fun _ _ h => OpS.gr (w := w) h hg) hg) (by simp; omega) (by simp)
  exact ⟨v', w', e1, e2, Gr.kgs hg e3.1 (own_fr ho)⟩
theorem cutO_attrs2 (o : Op) (n : Int) : (cutO o n).2.attrs = o.attrs := by unfold cutO; split <;> rfl
theorem cutO_sz2 {o : Op} {n : Int} (hv : brk o.text = o.text.size) (h1 : szS o.text) (h2 : szS o.val.text) : szS (cutO o n).2.text ∧ szS (cutO o n).2.val.text := by
  unfold cutO
  split
  · exact ⟨(text_take_sz hv h1 n.toNat).2, h2⟩
  · exact ⟨h1, h2⟩
theorem cutO_sz1 {o : Op} {n : Int} (hv : brk o.text = o.text.size) (h1 : szS o.text) (h2 : szS o.val.text) : szS (cutO o n).1.text ∧ szS (cutO o n).1.val.text := by
  unfold cutO
  split
  · exact ⟨(text_take_sz hv h1 n.toNat).1, h2⟩
  · exact ⟨h1, h2⟩
theorem Tn.old {Wr Wr' : Nat → Option TypeId → Prop} {w w' : World} (h : Tn Wr w w') (hw : ∀ b t, Wr b t → Wr' b t ∨ w.heap.size ≤ b) : Tn Wr' w w' :=
  ⟨h.os, h.tape, h.output, h.size, fun b o hb hn => h.blk b o hb fun hh => (hw b _ hh).elim hn fun hle => by have := (Array.getElem?_eq_some_iff.1 hb).1; omega⟩
set_option maxRecDepth 20000 in
set_option maxHeartbeats 4000000 in
theorem next07_bad (g : Nat) (n : Int) (w : World) (hn : n < 1) :
    Calls Tryz.prog 20 #[.pointer (some ⟨g, 0, none⟩), .int .i64 n] w fun e w' => e = .returned (.tuple #[.agg #[.int .i64 0, .string ⟨#[]⟩, .int .i64 0, .int .i64 0, .string ⟨#[]⟩, .int .i64 0, .slice none 0 0], .int .i64 12]) ∧ Gr w w' := by
  go_enter Tryz.func20, Tryz.ntmps20
  go_wp2
  have B := (Blk.new w 46 #[.int .i64 0, .string ⟨#[]⟩, .int .i64 0, .int .i64 0, .string ⟨#[]⟩, .int .i64 0, .slice none 0 0]).set7 (.int .i64 0) (.string ⟨#[]⟩) (.int .i64 0) (.int .i64 0) (.string ⟨#[]⟩) (.int .i64 0) (.slice none 0 0)
  have y := B.cell
  unfold Ve.set7 at y
  refine bodyPost_ret (v := .tuple #[.agg #[.int .i64 0, .string ⟨#[]⟩, .int .i64 0, .int .i64 0, .string ⟨#[]⟩, .int .i64 0, .slice none 0 0], .int .i64 12]) (by simp [results, Tryz.results20, go_sem, y]; done) rfl ⟨rfl, ?_⟩
  exact (by repeat (with_reducible first | assumption | exact Gr.refl _ | apply Gr.alloc | apply Gr.drewN | apply Gr.drew | apply Gr.iter | (refine Gr.setCell ?_ (by simp) _) | (refine Gr.trans ?_ (by assumption))))
set_option maxRecDepth 20000 in
set_option maxHeartbeats 4000000 in
theorem next07_nil (w0 : World) (g : Nat) (n : Int) (w : World) (hn : 1 ≤ n) (hW : W7 w0 w g []) (h0 : Gr w0 w) :
    Calls Tryz.prog 20 #[.pointer (some ⟨g, 0, none⟩), .int .i64 n] w fun e w' => e = .returned (.tuple #[.agg #[.int .i64 3, .string ⟨#[]⟩, .int .i64 0, .int .i64 0, .string ⟨#[]⟩, .int .i64 (min n 1099511627776), .slice none 0 0], .int .i64 0]) ∧ Gr w w' := by
  have hWk := hW.wk h0
  have hW0 := hWk
  obtain ⟨sl, hB, hr⟩ := hW0
  obtain ⟨a, m, cap, rfl, -, -, -, hm⟩ := hr.sl
  obtain rfl : m = 0 := hm.out.symm
  go_enter Tryz.func20, Tryz.ntmps20
  go_wp2_with (go_at_call 29; obtain ⟨W, hWq, B0, hgW⟩ := blkOne w 46 #[.int .i64 0, .string ⟨#[]⟩, .int .i64 0, .int .i64 0, .string ⟨#[]⟩, .int .i64 0, .slice none 0 0]; rw [hWq]; have HWq := Lib.hid hWq; clear hWq; refine (left07_any g [] _ (hWk.gr (by repeat (with_reducible first | assumption | exact Gr.refl _ | apply Gr.alloc | apply Gr.drewN | apply Gr.drew | apply Gr.iter | (refine Gr.setCell ?_ (by simp) _) | (refine Gr.trans ?_ (by assumption))))) (by simp)).mono ?_; rintro e w1 ⟨rfl, hg1⟩; dsimp only [leftO]; have b1 := (hB.gr (w' := w1) (by repeat (with_reducible first | assumption | exact Gr.refl _ | apply Gr.alloc | apply Gr.drewN | apply Gr.drew | apply Gr.iter | (refine Gr.setCell ?_ (by simp) _) | (refine Gr.trans ?_ (by assumption))))).cell; have B1 := B0.gr (w' := w1) (by repeat (with_reducible first | assumption | exact Gr.refl _ | apply Gr.alloc | apply Gr.drewN | apply Gr.drew | apply Gr.iter | (refine Gr.setCell ?_ (by simp) _) | (refine Gr.trans ?_ (by assumption)))); have r1c := B1.cell; have r1f := B1.frozen; have r1z := B1.lt)
  have B := B1.set7 (.int .i64 3) (.string ⟨#[]⟩) (.int .i64 0) (.int .i64 0) (.string ⟨#[]⟩) (.int .i64 (min n 1099511627776)) (.slice none 0 0)
  have y := B.cell
  unfold Ve.set7 at y
  refine bodyPost_ret (v := .tuple #[.agg #[.int .i64 3, .string ⟨#[]⟩, .int .i64 0, .int .i64 0, .string ⟨#[]⟩, .int .i64 (min n 1099511627776), .slice none 0 0], .int .i64 0]) (by simp [results, Tryz.results20, go_sem, y]; done) rfl ⟨rfl, ?_⟩
  iterate 7 (refine Gr.setCell ?_ (by dsimp only; omega) _)
  exact (by repeat (with_reducible first | assumption | exact Gr.refl _ | apply Gr.alloc | apply Gr.drewN | apply Gr.drew | apply Gr.iter | (refine Gr.setCell ?_ (by simp) _) | (refine Gr.trans ?_ (by assumption))))
set_option maxRecDepth 20000 in
set_option maxHeartbeats 4000000 in
theorem next07_whole (w0 : World) (g : Nat) (n : Int) (w : World) (o : Op) (r : List Op) (hn : 1 ≤ n) (hW : W7 w0 w g (o :: r)) (h0 : Gr w0 w) (hok : ∀ x ∈ o :: r, checkOp x = 0) (hg : w0.heap.size ≤ g) (hN : rlen o ≤ n) (hN1 : 1 ≤ rlen o) :
    Calls Tryz.prog 20 #[.pointer (some ⟨g, 0, none⟩), .int .i64 n] w fun e w' => ∃ s, e = .returned (.tuple #[opV o s, .int .i64 0]) ∧ (RdAttrs w0 s o.attrs ∨ OwnA w' s o.attrs) ∧ szS o.text ∧ szS o.val.text ∧ W7 w0 w' g r ∧ Tn (fun b t => b = g ∧ t = some 33) w w' := by
  have hWk := hW.wk h0
  obtain ⟨sl, hB, hL⟩ := hW
  have hr := hL.rd h0
  obtain ⟨a, m, cap, rfl, hm1, hm2, hm3, hm⟩ := hr.sl
  have hml : m = r.length + 1 := hm.out.symm
  obtain ⟨b, off, ⟨k, t, ⟨va, vb, vt⟩, c, ats⟩, cs, rfl, hx, ⟨sl', rfl, hra0, s1, s2⟩, _, hc⟩ := RdList.get hr 0 (by omega)
  have c0 := hc 0 _ (by omega) rfl; have c1 := hc 1 _ (by omega) rfl; have c2 := hc 2 _ (by omega) rfl; have c3 := hc 3 _ (by omega) rfl; have c4 := hc 4 _ (by omega) rfl; have c5 := hc 5 _ (by omega) rfl; have c6 := hc 6 _ (by omega) rfl
  clear hc
  simp only [List.getElem?_cons_zero, Option.some.injEq] at hx
  subst hx
  simp only [Nat.zero_mul, Nat.add_zero] at c0 c1 c2 c3 c4 c5 c6
  dsimp only at s1 s2 hra0 c0 c1 c2 c3 c4 c5 c6
  have hra : RdAttrs w sl' ats := hra0.elim (fun h => RdAttrs.gr h h0) (fun h => h.rd)
  have hk := ok_kind (hok ⟨k, t, ⟨va, vb, vt⟩, c, ats⟩ (by simp))
  dsimp only at hk
  obtain ⟨N, hNN⟩ : ∃ N, rlen ⟨k, t, ⟨va, vb, vt⟩, c, ats⟩ = N := ⟨_, rfl⟩
  rw [hNN] at hN hN1
  have hmin : min n N = N := by omega
  have hm0 : (m == 0) = false := by simp; omega
  have hmpos : 0 < m := by omega
  have HK := Lib.hid (And.intro hk hNN); clear hk hNN
  obtain ⟨sa, sn, sc, rfl, -, -, -, -⟩ := RdList.sl hra
  have hgl := hB.lt
  obtain ⟨ad, had⟩ : ∃ ad, (if cap = 1 then some (⟨b, off, none⟩ : Addr) else some ⟨b, off + 7, none⟩) = ad := ⟨_, rfl⟩
  have hTl : RdList (OpS w0) 7 w (.slice ad r.length (cap - 1)) r := by
    by_cases hcap : cap = 1
    · have hr0 : r = [] := List.length_eq_zero_iff.1 (by omega)
      subst hr0 hcap
      exact ⟨ad, 0, [], rfl, Nat.le_refl _, by simp [maxLen], by simp, rfl, fun h => absurd h (by simp)⟩
    · rw [if_neg hcap] at had
      subst had
      have := RdList.drop (hL.rd h0) 1 (by omega)
      simpa [hml] using this
  go_enter Tryz.func20, Tryz.ntmps20
  go_wp2_with (first
    | (go_at_call 29; obtain ⟨W, hWq, B0, hgW⟩ := blkOne w 46 #[.int .i64 0, .string ⟨#[]⟩, .int .i64 0, .int .i64 0, .string ⟨#[]⟩, .int .i64 0, .slice none 0 0]; rw [hWq]; have HWq := Lib.hid hWq; clear hWq; refine (left07_any g _ _ (hWk.gr (by repeat (with_reducible first | assumption | exact Gr.refl _ | apply Gr.alloc | apply Gr.drewN | apply Gr.drew | apply Gr.iter | (refine Gr.setCell ?_ (by simp) _) | (refine Gr.trans ?_ (by assumption))))) hok).mono ?_; rintro e w1 ⟨rfl, hg1⟩; dsimp only [leftO]; rw [HK.out.2]; have hww1 : Gr w w1 := (by repeat (with_reducible first | assumption | exact Gr.refl _ | apply Gr.alloc | apply Gr.drewN | apply Gr.drew | apply Gr.iter | (refine Gr.setCell ?_ (by simp) _) | (refine Gr.trans ?_ (by assumption)))); have b1 := (hB.gr hww1).cell; have d0 := hww1.cell c0; have d1 := hww1.cell c1; have d2 := hww1.cell c2; have d3 := hww1.cell c3; have d4 := hww1.cell c4; have d5 := hww1.cell c5; have d6 := hww1.cell c6)
    | (go_at_call 93; refine (cut07_all k t va vb vt c _ ats _ (RdAttrs.gr (w := w) hra (by repeat (with_reducible first | assumption | exact Gr.refl _ | apply Gr.alloc | apply Gr.drewN | apply Gr.drew | apply Gr.iter | (refine Gr.setCell ?_ (by simp) _) | (refine Gr.trans ?_ (by assumption))))) s1 HK.out.1 N HK.out.2.symm).mono ?_; rintro e w2 ⟨rfl, hg2⟩; have hWw2 : Gr W w2 := Gr.trans hg1 hg2; have hww2 : Gr w w2 := Gr.trans hgW hWw2; have b2 := (hB.gr hww2).cell; have b2z := (hB.gr hww2).lt; have b2z1 : g < w2.heap.size + 1 := (by omega); have b2z2 : g < w2.heap.size + 1 + 1 := (by omega); have C0 := ((Blk.new w2 46 #[.int .i64 k, .string t, .int .i64 va, .int .i64 vb, .string vt, .int .i64 c, .slice sa sn sc]).alloc (.cells #[.int .i64 0, .string ⟨#[]⟩, .int .i64 0, .int .i64 0, .string ⟨#[]⟩, .int .i64 0, .slice none 0 0] 46)).alloc (.cells #[] 46); have gW : Gr w2 _ := (((Gr.refl w2).alloc (.cells #[.int .i64 k, .string t, .int .i64 va, .int .i64 vb, .string vt, .int .i64 c, .slice sa sn sc] 46)).alloc (.cells #[.int .i64 0, .string ⟨#[]⟩, .int .i64 0, .int .i64 0, .string ⟨#[]⟩, .int .i64 0, .slice none 0 0] 46)).alloc (.cells #[] 46); have gwW := Gr.trans hww2 gW; have hz2 := hww2.size; have hz0 := h0.size; obtain ⟨v6, w6, r6, o6, k6, n6⟩ := app_opS w0 _ w0.heap.size 22 (OwnL.made ((w2.alloc (.cells #[.int .i64 k, .string t, .int .i64 va, .int .i64 vb, .string vt, .int .i64 c, .slice sa sn sc] 46)).alloc (.cells #[.int .i64 0, .string ⟨#[]⟩, .int .i64 0, .int .i64 0, .string ⟨#[]⟩, .int .i64 0, .slice none 0 0] 46)) (OpS w0) 7 w0.heap.size 46 (by simp only [World.size_alloc]; omega)) (RdList.gr (w := w) hTl (fun _ _ h => OpS.gr (w := w) h gwW) gwW) (by simp only [List.length_nil]; omega) (by simp only [World.size_alloc]; omega); obtain ⟨x1, x2, x3, rfl, -⟩ := o6.sl; rw [List.nil_append] at o6; have T6 := (Tn.of_kg (Wr := fun b t => b = w2.heap.size + 1 + 1 ∧ t = some 46) k6 (fun b t hb ht => ⟨by simp [Value.ownBlock] at hb; omega, by unfold opT at ht; rw [beq_iff_eq.1 ht]⟩)); have B6 := ((hB.gr hww2).gr gW).tn T6 (fun h => by have := h.1; omega); have C6 := C0.tn T6 (fun h => by have := h.1; omega); have D6 := ((B0.gr hWw2).gr gW).tn T6 (fun h => by have := h.1; omega); have b6c := B6.cell; have b6f := B6.frozen; have b6z := B6.lt; have C7 := C6.far (p := ⟨g, 0, none⟩) (show w2.heap.size ≠ g by omega) (.slice x1 x2 x3); have c7c := C7.cell; have c7z := C7.lt; have D7 := D6.far (p := ⟨g, 0, none⟩) (show w.heap.size ≠ g by omega) (.slice x1 x2 x3); have d7c := D7.cell; have d7f := D7.frozen; have d7z := D7.lt; have HOb := Lib.hid (show ∀ b, (Value.slice x1 x2 x3).ownBlock = some b → w.heap.size < b from fun b hb => (by rcases n6 with h | h <;> (rw [h] at hb; simp only [World.size_alloc, Value.ownBlock, if_true, if_pos, Option.some.injEq] at hb; omega))); have HO := Lib.hid o6; simp only [World.size_alloc] at r6; have HP := Lib.hid (And.intro r6 trivial); clear r6 o6 k6)
    | (at_builtin; refine wpList_run rfl _ _ _ rfl rfl rfl HP.out.1 ?_))
  have D8 := D7.set7 (.int .i64 k) (.string t) (.int .i64 va) (.int .i64 vb) (.string vt) (.int .i64 c) (.slice sa sn sc)
  have T8 := set7_one D7 (.int .i64 k) (.string t) (.int .i64 va) (.int .i64 vb) (.string vt) (.int .i64 c) (.slice sa sn sc)
  have y := D8.cell
  have T7 := ((Tn.set (Wr := fun b t => (b = g ∧ t = some 33) ∨ w.heap.size ≤ b) B6 (.inl ⟨rfl, rfl⟩) 0 (.slice x1 x2 x3))).trans (T8.mono (fun b t h => .inr (Nat.le_of_eq h.1.symm)))
  have hTf := ((Tn.of_gr (Wr := fun b t => (b = g ∧ t = some 33) ∨ w.heap.size ≤ b) gwW).trans (T6.mono (fun b t h => .inr (by have := h.1; omega)))).trans T7
  have hG0 := Gr.tn h0 hTf (fun b t h => by rcases h with h | h <;> omega)
  have T9 : Tn (fun b t => t = some 33 ∨ (b = w.heap.size ∧ t = some 46)) w6 _ := ((Tn.set B6 (.inl rfl) 0 (.slice x1 x2 x3))).trans (T8.mono (fun b t h => .inr h))
  have hOf := OwnL.tn (w := w6) HO.out (fun _ _ h => OpS.tn (w := w6) h T9 (fun b h => by simp at h)) T9 (fun b hb h => h.elim (fun h => absurd (Option.some.inj h) (by decide)) (fun h => by have := HOb.out b hb; have := h.1; omega))
  have hBf := Blk.tn (B6.set 0 (.slice x1 x2 x3)) T8 (fun h => by have := h.1; omega)
  unfold Ve.set7 at y hTf hG0 hOf hBf
  refine bodyPost_ret (v := .tuple #[.agg #[.int .i64 k, .string t, .int .i64 va, .int .i64 vb, .string vt, .int .i64 c, .slice sa sn sc], .int .i64 0]) (by simp [results, Tryz.results20, go_sem, y]; done) rfl ⟨.slice sa sn sc, rfl, ?_, s1, s2, ⟨_, hBf, .inr ⟨hOf, by omega⟩⟩, Tn.old hTf fun b t h => h⟩
  rcases hra0 with h | h
  · exact .inl h
  · exact .inr (h.tn hTf fun b hb hh => by
      rcases hh with hh | hh
      · exact absurd (Option.some.inj hh.2) (by decide)
      · have := (OwnL.lt_ h.1 b hb).2; omega)
set_option maxRecDepth 20000 in
set_option maxHeartbeats 4000000 in
theorem next07_cut (w0 : World) (g : Nat) (n : Int) (w : World) (o : Op) (r : List Op) (hn : 1 ≤ n) (hW : W7 w0 w g (o :: r)) (h0 : Gr w0 w) (hok : ∀ x ∈ o :: r, checkOp x = 0) (hg : w0.heap.size ≤ g) (hN : n < rlen o) (hN2 : rlen o ≤ 1099511627776) (hpre : brk o.text = o.text.size ∧ (o.kind = 1 ∨ o.count = rlen o)) :
    Calls Tryz.prog 20 #[.pointer (some ⟨g, 0, none⟩), .int .i64 n] w fun e w' => ∃ s, e = .returned (.tuple #[opV (cutO o n).1 s, .int .i64 0]) ∧ OwnA w' s o.attrs ∧ szS (cutO o n).1.text ∧ szS (cutO o n).1.val.text ∧ W7 w0 w' g ((cutO o n).2 :: r) ∧ Tn (fun b t => b = g ∧ t = some 33) w w' := by
  have hWk := hW.wk h0
  obtain ⟨sl, hB, hL⟩ := hW
  have hr := hL.rd h0
  obtain ⟨a, m, cap, rfl, hm1, hm2, hm3, hm⟩ := hr.sl
  have hml : m = r.length + 1 := hm.out.symm
  obtain ⟨b, off, ⟨k, t, ⟨va, vb, vt⟩, c, ats⟩, cs, rfl, hx, ⟨sl', rfl, hra0, s1, s2⟩, _, hc⟩ := RdList.get hr 0 (by omega)
  have c0 := hc 0 _ (by omega) rfl; have c1 := hc 1 _ (by omega) rfl; have c2 := hc 2 _ (by omega) rfl; have c3 := hc 3 _ (by omega) rfl; have c4 := hc 4 _ (by omega) rfl; have c5 := hc 5 _ (by omega) rfl; have c6 := hc 6 _ (by omega) rfl
  clear hc
  simp only [List.getElem?_cons_zero, Option.some.injEq] at hx
  subst hx
  simp only [Nat.zero_mul, Nat.add_zero] at c0 c1 c2 c3 c4 c5 c6
  dsimp only at s1 s2 hra0 c0 c1 c2 c3 c4 c5 c6
  have hra : RdAttrs w sl' ats := hra0.elim (fun h => RdAttrs.gr h h0) (fun h => h.rd)
  have hk := ok_kind (hok ⟨k, t, ⟨va, vb, vt⟩, c, ats⟩ (by simp))
  dsimp only at hk
  obtain ⟨N, hNN⟩ : ∃ N, rlen ⟨k, t, ⟨va, vb, vt⟩, c, ats⟩ = N := ⟨_, rfl⟩
  rw [hNN] at hN hN2 hpre
  have hmin : min n N = n := by omega
  have hat : ats.length ≤ 1099511627776 := by obtain ⟨-, -, -, -, -, -, h, -⟩ := hra; exact h
  obtain ⟨k1, t1, ⟨va1, vb1, vt1⟩, c1', at1, hQ1⟩ : ∃ k' t' v' c' a', (cutO ⟨k, t, ⟨va, vb, vt⟩, c, ats⟩ n).1 = ⟨k', t', v', c', a'⟩ := ⟨_, _, _, _, _, rfl⟩
  obtain ⟨k2, t2, ⟨va2, vb2, vt2⟩, c2', at2, hQ2⟩ : ∃ k' t' v' c' a', (cutO ⟨k, t, ⟨va, vb, vt⟩, c, ats⟩ n).2 = ⟨k', t', v', c', a'⟩ := ⟨_, _, _, _, _, rfl⟩
  have e1 := cutO_attrs ⟨k, t, ⟨va, vb, vt⟩, c, ats⟩ n
  have e2 := cutO_attrs2 ⟨k, t, ⟨va, vb, vt⟩, c, ats⟩ n
  have z2 := cutO_sz2 (o := ⟨k, t, ⟨va, vb, vt⟩, c, ats⟩) (n := n) hpre.1 s1 s2
  have HS1 := Lib.hid (cutO_sz1 (o := ⟨k, t, ⟨va, vb, vt⟩, c, ats⟩) (n := n) hpre.1 s1 s2)
  rw [hQ1] at e1
  rw [hQ2] at e2 z2
  dsimp only at e1 e2 z2
  have e1' := e1.symm; have e2' := e2.symm; clear e1 e2
  subst e1'
  subst e2'
  have HSZ := Lib.hid z2; clear z2
  have HQ := Lib.hid (And.intro hQ1 hQ2); clear hQ1 hQ2
  have HPR := Lib.hid hpre; clear hpre
  have hm0 : (m == 0) = false := by simp; omega
  have hmpos : 0 < m := by omega
  have HK := Lib.hid (And.intro hk hNN); clear hk hNN
  obtain ⟨sa, sn, sc, rfl, -, -, -, -⟩ := RdList.sl hra
  have hgl := hB.lt
  obtain ⟨ad, had⟩ : ∃ ad, (if cap = 1 then some (⟨b, off, none⟩ : Addr) else some ⟨b, off + 7, none⟩) = ad := ⟨_, rfl⟩
  have hTl : RdList (OpS w0) 7 w (.slice ad r.length (cap - 1)) r := by
    by_cases hcap : cap = 1
    · have hr0 : r = [] := List.length_eq_zero_iff.1 (by omega)
      subst hr0 hcap
      exact ⟨ad, 0, [], rfl, Nat.le_refl _, by simp [maxLen], by simp, rfl, fun h => absurd h (by simp)⟩
    · rw [if_neg hcap] at had
      subst had
      have := RdList.drop (hL.rd h0) 1 (by omega)
      simpa [hml] using this
  go_enter Tryz.func20, Tryz.ntmps20
  go_wp2_with (first
    | (go_at_call 29; obtain ⟨W, hWq, B0, hgW⟩ := blkOne w 46 #[.int .i64 0, .string ⟨#[]⟩, .int .i64 0, .int .i64 0, .string ⟨#[]⟩, .int .i64 0, .slice none 0 0]; rw [hWq]; have HWq := Lib.hid hWq; clear hWq; refine (left07_any g _ _ (hWk.gr (by repeat (with_reducible first | assumption | exact Gr.refl _ | apply Gr.alloc | apply Gr.drewN | apply Gr.drew | apply Gr.iter | (refine Gr.setCell ?_ (by simp) _) | (refine Gr.trans ?_ (by assumption))))) hok).mono ?_; rintro e w1 ⟨rfl, hg1⟩; dsimp only [leftO]; rw [HK.out.2]; have hww1 : Gr w w1 := (by repeat (with_reducible first | assumption | exact Gr.refl _ | apply Gr.alloc | apply Gr.drewN | apply Gr.drew | apply Gr.iter | (refine Gr.setCell ?_ (by simp) _) | (refine Gr.trans ?_ (by assumption)))); have b1 := (hB.gr hww1).cell; have d0 := hww1.cell c0; have d1 := hww1.cell c1; have d2 := hww1.cell c2; have d3 := hww1.cell c3; have d4 := hww1.cell c4; have d5 := hww1.cell c5; have d6 := hww1.cell c6)
    | (go_at_call 93; refine (cut07_some k t va vb vt c _ ats _ (RdAttrs.gr (w := w) hra (by repeat (with_reducible first | assumption | exact Gr.refl _ | apply Gr.alloc | apply Gr.drewN | apply Gr.drew | apply Gr.iter | (refine Gr.setCell ?_ (by simp) _) | (refine Gr.trans ?_ (by assumption))))) s1 HK.out.1 n HPR.out.1 N HK.out.2 hn hN HPR.out.2 hN2).mono ?_; rw [HQ.out.1, HQ.out.2]; rintro e w2 ⟨s31, s32, rfl, h31, h32, hg2⟩; obtain ⟨u1, u2, u3, rfl, -⟩ := h31.sl; obtain ⟨v1, v2, v3, rfl, -⟩ := h32.sl; dsimp only [opV]; have hWw2 : Gr W w2 := Gr.trans hg1 hg2; have hww2 : Gr w w2 := Gr.trans hgW hWw2; have b2 := (hB.gr hww2).cell; have b2z := (hB.gr hww2).lt; have b2z1 : g < w2.heap.size + 1 := (by omega); have b2z2 : g < w2.heap.size + 1 + 1 := (by omega); have C0 := ((Blk.new w2 46 #[.int .i64 k1, .string t1, .int .i64 va1, .int .i64 vb1, .string vt1, .int .i64 c1', .slice u1 u2 u3]).alloc (.cells #[.int .i64 k2, .string t2, .int .i64 va2, .int .i64 vb2, .string vt2, .int .i64 c2', .slice v1 v2 v3] 46)).alloc (.cells #[] 46); have gW : Gr w2 _ := (((Gr.refl w2).alloc (.cells #[.int .i64 k1, .string t1, .int .i64 va1, .int .i64 vb1, .string vt1, .int .i64 c1', .slice u1 u2 u3] 46)).alloc (.cells #[.int .i64 k2, .string t2, .int .i64 va2, .int .i64 vb2, .string vt2, .int .i64 c2', .slice v1 v2 v3] 46)).alloc (.cells #[] 46); have gwW := Gr.trans hww2 gW; have hz2 := hww2.size; have hz0 := h0.size; obtain ⟨v6, w6, r6, o6, k6, n6⟩ := app_opS w0 _ w0.heap.size 22 (OwnL.made ((w2.alloc (.cells #[.int .i64 k1, .string t1, .int .i64 va1, .int .i64 vb1, .string vt1, .int .i64 c1', .slice u1 u2 u3] 46)).alloc (.cells #[.int .i64 k2, .string t2, .int .i64 va2, .int .i64 vb2, .string vt2, .int .i64 c2', .slice v1 v2 v3] 46)) (OpS w0) 7 w0.heap.size 46 (by simp only [World.size_alloc]; omega)) (RdList.gr (w := w) hTl (fun _ _ h => OpS.gr (w := w) h gwW) gwW) (by simp only [List.length_nil]; omega) (by simp only [World.size_alloc]; omega); obtain ⟨x1, x2, x3, rfl, -⟩ := o6.sl; rw [List.nil_append] at o6; have T6 := (Tn.of_kg (Wr := fun b t => b = w2.heap.size + 1 + 1 ∧ t = some 46) k6 (fun b t hb ht => ⟨by simp [Value.ownBlock] at hb; omega, by unfold opT at ht; rw [beq_iff_eq.1 ht]⟩)); have B6 := ((hB.gr hww2).gr gW).tn T6 (fun h => by have := h.1; omega); have C6 := C0.tn T6 (fun h => by have := h.1; omega); have D6 := ((B0.gr hWw2).gr gW).tn T6 (fun h => by have := h.1; omega); have E0 := ((Blk.new (w2.alloc (.cells #[.int .i64 k1, .string t1, .int .i64 va1, .int .i64 vb1, .string vt1, .int .i64 c1', .slice u1 u2 u3] 46)) 46 #[.int .i64 k2, .string t2, .int .i64 va2, .int .i64 vb2, .string vt2, .int .i64 c2', .slice v1 v2 v3]).alloc (.cells #[] 46)); rw [World.size_alloc] at E0; have E6 := E0.tn T6 (fun h => by have := h.1; omega); have e6c := E6.cell; have e6z := E6.lt; have hA6 := OwnA.tn (OwnA.gr (OwnAL.rd h32 hat) gW) T6 (fun b _ h => absurd (Option.some.inj h.2) (by decide)); obtain ⟨v7, w7, r7, o7, g67⟩ := app_litS w0 w6 22 (o := ⟨k2, t2, ⟨va2, vb2, vt2⟩, c2', ats⟩) (sl := .slice v1 v2 v3) (.inr hA6) HSZ.out.1 HSZ.out.2 (OwnL.rd o6 (by omega)) (by omega); obtain ⟨y1, y2, y3, rfl, -⟩ := o7.sl; have B7 := B6.gr g67; have b7c := B7.cell; have b7f := B7.frozen; have b7z := B7.lt; have C7 := (C6.gr g67).far (p := ⟨g, 0, none⟩) (show w2.heap.size ≠ g by omega) (.slice y1 y2 y3); have c7c := C7.cell; have c7z := C7.lt; have D7 := (D6.gr g67).far (p := ⟨g, 0, none⟩) (show w.heap.size ≠ g by omega) (.slice y1 y2 y3); have d7c := D7.cell; have d7f := D7.frozen; have d7z := D7.lt; have hz6 : w2.heap.size ≤ w6.heap.size := Nat.le_trans gW.size T6.size; have HO := Lib.hid o7; have hA31 := OwnA.gr (OwnA.tn (OwnA.gr (OwnAL.rd h31 hat) gW) T6 (fun b _ h => absurd (Option.some.inj h.2) (by decide))) g67; simp only [World.size_alloc] at r6; have HP := Lib.hid (And.intro r6 trivial); have HP2 := Lib.hid (And.intro r7 trivial); clear r6 o6 k6 r7 o7)
    | (at_builtin; have _h := hbb; refine wpList_run rfl _ _ _ rfl rfl rfl HP2.out.1 ?_)
    | (at_builtin; refine wpList_run rfl _ _ _ rfl rfl rfl HP.out.1 ?_; have hbb := HP2))
  have D8 := D7.set7 (.int .i64 k1) (.string t1) (.int .i64 va1) (.int .i64 vb1) (.string vt1) (.int .i64 c1') (.slice u1 u2 u3)
  have T8 := set7_one D7 (.int .i64 k1) (.string t1) (.int .i64 va1) (.int .i64 vb1) (.string vt1) (.int .i64 c1') (.slice u1 u2 u3)
  have y := D8.cell
  have T7 := ((Tn.set (Wr := fun b t => (b = g ∧ t = some 33) ∨ w.heap.size ≤ b) B7 (.inl ⟨rfl, rfl⟩) 0 (.slice y1 y2 y3))).trans (T8.mono (fun b t h => .inr (Nat.le_of_eq h.1.symm)))
  have hTf := (((Tn.of_gr (Wr := fun b t => (b = g ∧ t = some 33) ∨ w.heap.size ≤ b) gwW).trans (T6.mono (fun b t h => .inr (by have := h.1; omega)))).trans (Tn.of_gr g67)).trans T7
  have T9 : Tn (fun b t => t = some 33 ∨ (b = w.heap.size ∧ t = some 46)) w7 _ := ((Tn.set B7 (.inl rfl) 0 (.slice y1 y2 y3))).trans (T8.mono (fun b t h => .inr h))
  have hOf := OwnL.tn (w := w7) HO.out (fun _ _ h => OpS.tn (w := w7) h T9 (fun b h => by simp at h)) T9 (fun b hb h => h.elim (fun h => absurd (Option.some.inj h) (by decide)) (fun h => by have := (OwnL.lt_ HO.out b hb).1; have := h.1; omega))
  have hAf := OwnA.tn hA31 T9 (fun b _ h => by simp at h)
  have hBf := Blk.tn (B7.set 0 (.slice y1 y2 y3)) T8 (fun h => by have := h.1; omega)
  unfold Ve.set7 at y hTf hOf hBf hAf
  refine bodyPost_ret (v := .tuple #[.agg #[.int .i64 k1, .string t1, .int .i64 va1, .int .i64 vb1, .string vt1, .int .i64 c1', .slice u1 u2 u3], .int .i64 0]) (by simp [results, Tryz.results20, go_sem, y]; done) rfl ⟨.slice u1 u2 u3, by rw [HQ.out.1]; rfl, hAf, HS1.out.1, HS1.out.2, ⟨_, hBf, .inr ⟨?_, by rw [List.length_cons]; omega⟩⟩, Tn.old hTf fun b t h => h⟩
  rw [HQ.out.2]
  exact OwnL.base_le hOf (by omega)
theorem kind_ops (ps : List Piece) : kindO (ps.map Piece.op) = kindP ps := by
  cases ps with
  | nil => rfl
  | cons p r => cases p <;> rfl
theorem left_ops {ps : List Piece} (h : PsOk ps) : leftO (ps.map Piece.op) = leftP ps := by
  cases ps with
  | nil => rfl
  | cons p r => exact rlen_piece (h p (by simp))
theorem next07_own (w0 : World) (g : Nat) (n : Int) (w : World) (ps : List Piece) (hn : 1 ≤ n) (hW : W7 w0 w g (ps.map Piece.op)) (h0 : Gr w0 w) (hc : Can ps) (hg : w0.heap.size ≤ g) :
    Calls Tryz.prog 20 #[.pointer (some ⟨g, 0, none⟩), .int .i64 n] w fun e w' => ∃ s, e = .returned (.tuple #[opV (nextP ps n).1.op s, .int .i64 0]) ∧ (RdAttrs w0 s (nextP ps n).1.op.attrs ∨ OwnA w' s (nextP ps n).1.op.attrs) ∧ szS (nextP ps n).1.op.text ∧ szS (nextP ps n).1.op.val.text ∧ W7 w0 w' g ((nextP ps n).2.map Piece.op) ∧ Tn (fun b t => b = g ∧ t = some 33) w w' := by
  cases ps with
  | nil =>
    refine (next07_nil w0 g n w hn hW h0).mono ?_
    rintro e w' ⟨rfl, hg'⟩
    exact ⟨.slice none 0 0, rfl, .inl (RdList.nil ..), Nat.zero_le _, Nat.zero_le _, hW.gr hg', Tn.of_gr hg'⟩
  | cons p r =>
    have hp := hc.ok p (by simp)
    have hl := rlen_piece hp
    have h1 := pOk_pos hp
    have hb := hc.left.2
    simp only [leftP] at hb
    by_cases hN : p.len ≤ n
    · rw [show nextP (p :: r) n = (p, r) by simp only [nextP]; rw [if_pos hN]]
      exact next07_whole w0 g n w p.op (r.map Piece.op) hn hW h0 hc.ok.ops hg (by rw [hl]; exact hN) (by rw [hl]; exact h1)
    · have hne : ∀ a t v, p ≠ .emb a t v := by rintro a t v rfl; simp only [Piece.len] at hN; omega
      obtain ⟨c1, c2⟩ := cut_op (n := n) hne
      rw [show nextP (p :: r) n = ((cutP p n).1, (cutP p n).2 :: r) by simp only [nextP]; rw [if_neg hN]]
      obtain ⟨k, t, v, c, a, ho⟩ : ∃ k t v c a, p.op = ⟨k, t, v, c, a⟩ := ⟨_, _, _, _, _, rfl⟩
      obtain ⟨q1, q2, q3⟩ := cut_pre hp ho rfl hne
      refine (next07_cut w0 g n w p.op (r.map Piece.op) hn hW h0 hc.ok.ops hg (by rw [hl]; omega) (by rw [hl]; exact hb) (by rw [hl, ho]; exact ⟨q2, q3⟩)).mono ?_
      rintro e w' ⟨s, rfl, ha, hs1, hs2, hw, ht⟩
      rw [c2] at hw
      have hat : (cutP p n).1.op.attrs = p.op.attrs := by rw [← c1, cutO_attrs]
      exact ⟨s, by rw [c1], .inr (by dsimp only; rw [hat]; exact ha), by rw [← c1]; exact hs1, by rw [← c1]; exact hs2, hw, ht⟩
end Ve
