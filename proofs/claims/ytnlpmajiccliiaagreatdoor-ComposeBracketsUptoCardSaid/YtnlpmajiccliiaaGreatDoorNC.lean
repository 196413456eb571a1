/- Walks of layer 3: attrs.composed, Compose. -/
import Derived.Test.YtnlpmajiccliiaaGreatDoorNA
import Derived.Test.YtnlpmajiccliiaaGreatDoorG7
import Derived.Test.YtnlpmajiccliiaaGreatDoorT3
set_option linter.all false
namespace Ve
open Go Go.RowKit Go.Proofs

def appSh (ats : Array TypeId) (ty : TypeId) (args : Array Value) : Sem Value := Builtin.append_ ats ty args
theorem append_sh (ats : Array TypeId) (ty : TypeId) (args : Array Value) : Builtin.append_ ats ty args = appSh ats ty args := rfl
attribute [irreducible] appSh
attribute [local go_sem ↓] append_sh
def atT (t : TypeId) : Bool := t == 176
/-- One attribute appended. -/
theorem push_attr (w : World) (base : Nat) (ty : TypeId) {v : Value} {l : List Attr} (k : ByteArray) (a b : Int) (t : ByteArray) (hown : OwnL AttrR 4 base 176 w v l) (s1 : szS k) (s2 : szS t) (hm : l.length + 1 ≤ 1099511627776) (hb : base ≤ w.heap.size) :
    ∃ v' w', (Builtin.append_ #[61, 61] ty #[v, .slice (some ⟨w.heap.size, 0, none⟩) 1 1]).run Tryz.prog (w.alloc (.cells #[.string k, .int .i64 a, .int .i64 b, .string t] 176)) = .ok v' w' ∧ OwnL AttrR 4 base 176 w' v' (l ++ [⟨k, ⟨a, b, t⟩⟩]) ∧
      (w.alloc (.cells #[.string k, .int .i64 a, .int .i64 b, .string t] 176)).grownBy w' v.ownBlock ∧ (∀ b, v.ownBlock = some b → base ≤ b) ∧ Kg (fun b => v.ownBlock = some b) atT w w' ∧ (∀ b, v'.ownBlock = some b → v.ownBlock = some b ∨ w.heap.size ≤ b) := by
  obtain ⟨xs, ho, -⟩ := id hown
  obtain ⟨v', w', h1, h2, h3, -, -, h6, h7⟩ := run_push (P := Tryz.prog) (R := AttrR) w base 61 ty 176 _ 4 48 Tryz.underlying61 info_attr rfl (by omega) (by omega) (fun w x cs h => AttrR.flat w x cs h) (fun _ _ _ _ _ h => h) hown (x := ⟨k, ⟨a, b, t⟩⟩) (cs := [.string k, .int .i64 a, .int .i64 b, .string t]) ⟨rfl, s1, s2⟩ rfl hm hb
  exact ⟨v', w', h1, h2, h3, h6, Kg.of_own_alloc ho (by decide) (fun b h => h) h3, h7⟩
/-- What attrs.composed holds between two calls of its literal. -/
structure CoM (w0 : World) (N B : Nat) (nulls : Bool) (done : List Attr) (w : World) : Prop where
  gr : Gr w0 w
  nb : Blk w N 4 #[.bool nulls]
  ob : ∃ ov, Blk w B 61 #[ov] ∧ OwnL AttrR 4 w0.heap.size 176 w ov done
  n0 : w0.heap.size ≤ N
  b0 : w0.heap.size ≤ B
theorem CoM.to {w0 w w' : World} {N B : Nat} {nulls : Bool} {done : List Attr} (h : CoM w0 N B nulls done w) (g : Gr w w') : CoM w0 N B nulls done w' := by
  obtain ⟨h1, h2, ⟨ov, h3, h4⟩, h5, h6⟩ := h
  exact ⟨h1.trans g, h2.gr g, ⟨ov, h3.gr g, h4.gr (fun _ _ h => h) g⟩, h5, h6⟩
def slT (t : TypeId) : Bool := t == 61
theorem rd_attr1 {w : World} {g : Nat} {k : ByteArray} {a b : Int} {t : ByteArray} (h : Blk w g 176 #[.string k, .int .i64 a, .int .i64 b, .string t]) (s1 : szS k) (s2 : szS t) : RdAttrs w (.slice (some ⟨g, 0, none⟩) 1 1) [⟨k, ⟨a, b, t⟩⟩] := by
  refine ⟨some ⟨g, 0, none⟩, 1, [.string k, .int .i64 a, .int .i64 b, .string t], rfl, Nat.le_refl _, by unfold maxLen; omega, by simp, ⟨_, [], rfl, rfl, ⟨rfl, s1, s2⟩, rfl⟩, fun _ => ⟨g, 0, rfl, fun j u hu => ?_⟩⟩
  rw [Nat.zero_add, h.cell j, ← hu]
  simp
theorem CoM.add {w0 w : World} {N B : Nat} {nulls : Bool} {done : List Attr} {ov x : Value} {z : Attr} (h : CoM w0 N B nulls done w) (hov : w.cell? ⟨B, 0, none⟩ = some ov) (hx : RdAttrs w x [z]) (ty : TypeId) (hm : done.length + 1 ≤ 1099511627776) :
    ∃ v' w', (appSh #[61, 61] ty #[ov, x]).run Tryz.prog w = .ok v' w' ∧
      CoM w0 N B nulls (done ++ [z]) (w'.setCell ⟨B, 0, none⟩ v') ∧ Blk w' B 61 #[ov] ∧ ∃ x1 x2 x3, v' = .slice x1 x2 x3 := by
  obtain ⟨h1, h2, ⟨ov', h3, h4⟩, h5, h6⟩ := h
  obtain rfl : ov' = ov := by have h := h3.cell 0; rw [hov] at h; simpa using h.symm
  obtain ⟨xs, ho, -⟩ := id h4
  obtain ⟨v', w', r1, r2, r3, -⟩ := app_attr w w0.heap.size ty h4 hx hm h1.size
  have r5 : Kg (fun b => ov'.ownBlock = some b) atT w w' := Kg.of_own ho (by decide) (fun b h => h) r3
  have b' : Blk w' B 61 #[ov'] := h3.kg r5 (by decide)
  have n' : Blk w' N 4 #[.bool nulls] := h2.kg r5 (by decide)
  have g' : Gr w0 w' := h1.kgs r5 (fun b h => (ho.lt b h).1)
  have kS : Kg (fun b => b = B) slT w' (w'.setCell ⟨B, 0, none⟩ v') := Kg.setCell (S := fun b => b = B) (E := slT) (Kg.refl w') b' (by decide) rfl 0 v'
  obtain ⟨x1, x2, x3, rfl, -⟩ := r2.sl
  rw [append_sh] at r1
  exact ⟨_, w', r1, ⟨g'.setCell h6 _, n'.kg kS (by decide), ⟨_, b'.set 0 _, r2.kg (fun _ _ h => h) kS (by decide)⟩, h5, h6⟩, b', _, _, _, rfl⟩
/-- A pointer to an attribute. -/
def AtP (w : World) (v : Value) (z : Attr) : Prop := ∃ b off, v = .pointer (some ⟨b, off, none⟩) ∧ w.cell? ⟨b, off, none⟩ = some (.string z.key) ∧ w.cell? ⟨b, off + 1, none⟩ = some (.int .i64 z.val.kind) ∧ w.cell? ⟨b, off + 2, none⟩ = some (.int .i64 z.val.num) ∧ w.cell? ⟨b, off + 3, none⟩ = some (.string z.val.text) ∧ szS z.key ∧ szS z.val.text
theorem AtP.gr {w w' : World} {v : Value} {z : Attr} (h : AtP w v z) (g : Gr w w') : AtP w' v z := by
  obtain ⟨b, off, rfl, c0, c1, c2, c3, s⟩ := h
  exact ⟨b, off, rfl, g.cell c0, g.cell c1, g.cell c2, g.cell c3, s⟩
/-- What the literal adds. -/
def addA (nulls : Bool) (z : Attr) : List Attr := if nulls = true ∨ z.val.kind ≠ 0 then [z] else []
theorem add_yes {nulls : Bool} {z : Attr} (h : nulls = true ∨ z.val.kind ≠ 0) : addA nulls z = [z] := if_pos h
theorem add_no {z : Attr} (h : z.val.kind = 0) : addA false z = [] := if_neg (by simp [h])

set_option maxHeartbeats 4000000 in
theorem comp1_y (w0 : World) (N B : Nat) (nulls : Bool) (done : List Attr) (k xv yv : Value) (z : Attr) (w : World) (hM : CoM w0 N B nulls done w) (hz : AtP w yv z) (hm : done.length + 1 ≤ 1099511627776) :
    Calls Tryz.prog 182 #[k, xv, yv, .pointer (some ⟨N, 0, none⟩), .pointer (some ⟨B, 0, none⟩)] w fun e w' => e = .returned (.tuple #[]) ∧ CoM w0 N B nulls (done ++ addA nulls z) w' := by
  obtain ⟨b, off, rfl, c0, c1, c2, c3, s1, s2⟩ := hz
  obtain ⟨zk, ⟨za, zb, zt⟩⟩ := z
  simp only at c0 c1 c2 c3 s1 s2
  have HM := Lib.hid hM
  obtain ⟨h1, h2, ⟨ov, h3, h4⟩, h5, h6⟩ := hM
  have hn := h2.cell 0
  have ho := h3.cell 0
  simp at hn ho
  obtain ⟨oa, on, oc, rfl, -⟩ := h4.sl
  clear h1 h2 h3 h4
  cases nulls with
  | true =>
    go_enter Tryz.func182, Tryz.ntmps182
    go_wp2
    have gw := ((Gr.refl w).alloc (.cells #[.string zk, .int .i64 za, .int .i64 zb, .string zt] 176)).drew
    have ho2 := gw.cell ho
    obtain ⟨v', w', hrun, hM', hB', x1, x2, x3, rfl⟩ := (HM.out.to (w' := ((w).alloc (.cells #[.string zk, .int .i64 za, .int .i64 zb, .string zt] 176)).drew) (by repeat (with_reducible first | assumption | exact Gr.refl _ | apply Gr.alloc | apply Gr.drewN | apply Gr.drew | apply Gr.iter | (refine Gr.setCell ?_ (by simp) _) | (refine Gr.trans ?_ (by assumption))))).add ho2 (rd_attr1 ((Blk.new w 176 #[.string zk, .int .i64 za, .int .i64 zb, .string zt]).gr ((Gr.refl _).drew)) s1 s2) 61 hm
    have hb' := hB'.cell 0
    have hf' := hB'.frozen
    have hl' := hB'.lt
    simp at hb'
    go_region
    all_goals go_wp2
    all_goals go_end0
    all_goals exact ⟨rfl, by rw [add_yes (by first | exact .inl rfl | exact .inr rfl)]; exact hM'⟩
  | false =>
    by_cases hz : za = 0
    · have HZ := Lib.hid hz
      have hz' : (za == 0) = true := by simpa using hz
      clear hz
      go_enter Tryz.func182, Tryz.ntmps182
      go_wp2_with (go_at_call 183; refine (null_any _ _ _ _ _).mono ?_; rintro e w1 ⟨rfl, hg1⟩)
      go_end0
      exact ⟨rfl, by rw [add_no (show (⟨zk, ⟨za, zb, zt⟩⟩ : Attr).val.kind = 0 from HZ.out), List.append_nil]; exact HM.out.to (by repeat (with_reducible first | assumption | exact Gr.refl _ | apply Gr.alloc | apply Gr.drewN | apply Gr.drew | apply Gr.iter | (refine Gr.setCell ?_ (by simp) _) | (refine Gr.trans ?_ (by assumption))))⟩
    · have HZ := Lib.hid hz
      have hz' : (za == 0) = false := by simpa using hz
      clear hz
      go_enter Tryz.func182, Tryz.ntmps182
      go_wp2_with (go_at_call 183; refine (null_any _ _ _ _ _).mono ?_; rintro e w1 ⟨rfl, hg1⟩; have d0 := Gr.cell (w := w) (w' := w1) (by repeat (with_reducible first | assumption | exact Gr.refl _ | apply Gr.alloc | apply Gr.drewN | apply Gr.drew | apply Gr.iter | (refine Gr.setCell ?_ (by simp) _) | (refine Gr.trans ?_ (by assumption)))) c0; have d1 := Gr.cell (w := w) (w' := w1) (by repeat (with_reducible first | assumption | exact Gr.refl _ | apply Gr.alloc | apply Gr.drewN | apply Gr.drew | apply Gr.iter | (refine Gr.setCell ?_ (by simp) _) | (refine Gr.trans ?_ (by assumption)))) c1; have d2 := Gr.cell (w := w) (w' := w1) (by repeat (with_reducible first | assumption | exact Gr.refl _ | apply Gr.alloc | apply Gr.drewN | apply Gr.drew | apply Gr.iter | (refine Gr.setCell ?_ (by simp) _) | (refine Gr.trans ?_ (by assumption)))) c2; have d3 := Gr.cell (w := w) (w' := w1) (by repeat (with_reducible first | assumption | exact Gr.refl _ | apply Gr.alloc | apply Gr.drewN | apply Gr.drew | apply Gr.iter | (refine Gr.setCell ?_ (by simp) _) | (refine Gr.trans ?_ (by assumption)))) c3)
      have ho := Gr.cell (w := w) (w' := w1) (by repeat (with_reducible first | assumption | exact Gr.refl _ | apply Gr.alloc | apply Gr.drewN | apply Gr.drew | apply Gr.iter | (refine Gr.setCell ?_ (by simp) _) | (refine Gr.trans ?_ (by assumption)))) ho
      have gw := ((Gr.refl w1).alloc (.cells #[.string zk, .int .i64 za, .int .i64 zb, .string zt] 176)).drew
      have ho2 := gw.cell ho
      obtain ⟨v', w', hrun, hM', hB', x1, x2, x3, rfl⟩ := (HM.out.to (w' := ((w1).alloc (.cells #[.string zk, .int .i64 za, .int .i64 zb, .string zt] 176)).drew) (by repeat (with_reducible first | assumption | exact Gr.refl _ | apply Gr.alloc | apply Gr.drewN | apply Gr.drew | apply Gr.iter | (refine Gr.setCell ?_ (by simp) _) | (refine Gr.trans ?_ (by assumption))))).add ho2 (rd_attr1 ((Blk.new w1 176 #[.string zk, .int .i64 za, .int .i64 zb, .string zt]).gr ((Gr.refl _).drew)) s1 s2) 61 hm
      have hb' := hB'.cell 0
      have hf' := hB'.frozen
      have hl' := hB'.lt
      simp at hb'
      go_region
      all_goals go_wp2
      all_goals go_end0
      all_goals exact ⟨rfl, by rw [add_yes (by first | exact .inl rfl | exact .inr HZ.out)]; exact hM'⟩
set_option maxHeartbeats 4000000 in
theorem comp1_x (w0 : World) (N B : Nat) (nulls : Bool) (done : List Attr) (k xv : Value) (z : Attr) (w : World) (hM : CoM w0 N B nulls done w) (hz : AtP w xv z) (hm : done.length + 1 ≤ 1099511627776) :
    Calls Tryz.prog 182 #[k, xv, .pointer none, .pointer (some ⟨N, 0, none⟩), .pointer (some ⟨B, 0, none⟩)] w fun e w' => e = .returned (.tuple #[]) ∧ CoM w0 N B nulls (done ++ addA nulls z) w' := by
  obtain ⟨b, off, rfl, c0, c1, c2, c3, s1, s2⟩ := hz
  obtain ⟨zk, ⟨za, zb, zt⟩⟩ := z
  simp only at c0 c1 c2 c3 s1 s2
  have HM := Lib.hid hM
  obtain ⟨h1, h2, ⟨ov, h3, h4⟩, h5, h6⟩ := hM
  have hn := h2.cell 0
  have ho := h3.cell 0
  simp at hn ho
  obtain ⟨oa, on, oc, rfl, -⟩ := h4.sl
  clear h1 h2 h3 h4
  cases nulls with
  | true =>
    go_enter Tryz.func182, Tryz.ntmps182
    go_wp2
    have gw := ((Gr.refl w).alloc (.cells #[.string zk, .int .i64 za, .int .i64 zb, .string zt] 176)).drew
    have ho2 := gw.cell ho
    obtain ⟨v', w', hrun, hM', hB', x1, x2, x3, rfl⟩ := (HM.out.to (w' := ((w).alloc (.cells #[.string zk, .int .i64 za, .int .i64 zb, .string zt] 176)).drew) (by repeat (with_reducible first | assumption | exact Gr.refl _ | apply Gr.alloc | apply Gr.drewN | apply Gr.drew | apply Gr.iter | (refine Gr.setCell ?_ (by simp) _) | (refine Gr.trans ?_ (by assumption))))).add ho2 (rd_attr1 ((Blk.new w 176 #[.string zk, .int .i64 za, .int .i64 zb, .string zt]).gr ((Gr.refl _).drew)) s1 s2) 61 hm
    have hb' := hB'.cell 0
    have hf' := hB'.frozen
    have hl' := hB'.lt
    simp at hb'
    go_region
    all_goals go_wp2
    all_goals go_end0
    all_goals exact ⟨rfl, by rw [add_yes (by first | exact .inl rfl | exact .inr rfl)]; exact hM'⟩
  | false =>
    by_cases hz : za = 0
    · have HZ := Lib.hid hz
      have hz' : (za == 0) = true := by simpa using hz
      clear hz
      go_enter Tryz.func182, Tryz.ntmps182
      go_wp2_with (go_at_call 183; refine (null_any _ _ _ _ _).mono ?_; rintro e w1 ⟨rfl, hg1⟩)
      go_end0
      exact ⟨rfl, by rw [add_no (show (⟨zk, ⟨za, zb, zt⟩⟩ : Attr).val.kind = 0 from HZ.out), List.append_nil]; exact HM.out.to (by repeat (with_reducible first | assumption | exact Gr.refl _ | apply Gr.alloc | apply Gr.drewN | apply Gr.drew | apply Gr.iter | (refine Gr.setCell ?_ (by simp) _) | (refine Gr.trans ?_ (by assumption))))⟩
    · have HZ := Lib.hid hz
      have hz' : (za == 0) = false := by simpa using hz
      clear hz
      go_enter Tryz.func182, Tryz.ntmps182
      go_wp2_with (go_at_call 183; refine (null_any _ _ _ _ _).mono ?_; rintro e w1 ⟨rfl, hg1⟩; have d0 := Gr.cell (w := w) (w' := w1) (by repeat (with_reducible first | assumption | exact Gr.refl _ | apply Gr.alloc | apply Gr.drewN | apply Gr.drew | apply Gr.iter | (refine Gr.setCell ?_ (by simp) _) | (refine Gr.trans ?_ (by assumption)))) c0; have d1 := Gr.cell (w := w) (w' := w1) (by repeat (with_reducible first | assumption | exact Gr.refl _ | apply Gr.alloc | apply Gr.drewN | apply Gr.drew | apply Gr.iter | (refine Gr.setCell ?_ (by simp) _) | (refine Gr.trans ?_ (by assumption)))) c1; have d2 := Gr.cell (w := w) (w' := w1) (by repeat (with_reducible first | assumption | exact Gr.refl _ | apply Gr.alloc | apply Gr.drewN | apply Gr.drew | apply Gr.iter | (refine Gr.setCell ?_ (by simp) _) | (refine Gr.trans ?_ (by assumption)))) c2; have d3 := Gr.cell (w := w) (w' := w1) (by repeat (with_reducible first | assumption | exact Gr.refl _ | apply Gr.alloc | apply Gr.drewN | apply Gr.drew | apply Gr.iter | (refine Gr.setCell ?_ (by simp) _) | (refine Gr.trans ?_ (by assumption)))) c3)
      have ho := Gr.cell (w := w) (w' := w1) (by repeat (with_reducible first | assumption | exact Gr.refl _ | apply Gr.alloc | apply Gr.drewN | apply Gr.drew | apply Gr.iter | (refine Gr.setCell ?_ (by simp) _) | (refine Gr.trans ?_ (by assumption)))) ho
      have gw := ((Gr.refl w1).alloc (.cells #[.string zk, .int .i64 za, .int .i64 zb, .string zt] 176)).drew
      have ho2 := gw.cell ho
      obtain ⟨v', w', hrun, hM', hB', x1, x2, x3, rfl⟩ := (HM.out.to (w' := ((w1).alloc (.cells #[.string zk, .int .i64 za, .int .i64 zb, .string zt] 176)).drew) (by repeat (with_reducible first | assumption | exact Gr.refl _ | apply Gr.alloc | apply Gr.drewN | apply Gr.drew | apply Gr.iter | (refine Gr.setCell ?_ (by simp) _) | (refine Gr.trans ?_ (by assumption))))).add ho2 (rd_attr1 ((Blk.new w1 176 #[.string zk, .int .i64 za, .int .i64 zb, .string zt]).gr ((Gr.refl _).drew)) s1 s2) 61 hm
      have hb' := hB'.cell 0
      have hf' := hB'.frozen
      have hl' := hB'.lt
      simp at hb'
      go_region
      all_goals go_wp2
      all_goals go_end0
      all_goals exact ⟨rfl, by rw [add_yes (by first | exact .inl rfl | exact .inr HZ.out)]; exact hM'⟩

theorem comp_flat (nulls : Bool) (a b : List Attr) : compA nulls a b = (mergeA a b).flatMap (addA nulls) := by
  unfold compA
  generalize mergeA a b = l
  cases nulls with
  | true =>
    rw [if_pos rfl]
    induction l with
    | nil => rfl
    | cons x l ih => rw [List.flatMap_cons, ← ih]; rfl
  | false =>
    rw [if_neg (by simp)]
    unfold wholeA
    induction l with
    | nil => rfl
    | cons x l ih =>
      rw [List.flatMap_cons, ← ih, List.filter_cons]
      by_cases h : x.val.kind = 0
      · rw [add_no h]; simp [h]
      · rw [add_yes (.inr h)]; simp [h]
theorem add_len (nulls : Bool) (z : Attr) : (addA nulls z).length ≤ 1 := by unfold addA; split <;> simp
theorem rd_head {w : World} {v : Value} {z : Attr} {r : List Attr} (h : RdAttrs w v (z :: r)) : ∃ b off m cap, v = .slice (some ⟨b, off, none⟩) m cap ∧ m = r.length + 1 ∧ m ≤ cap ∧ cap ≤ 9223372036854775807 ∧ m ≤ 1099511627776 ∧
    AtP w (.pointer (some ⟨b, off, none⟩)) z ∧ w.cell? ⟨b, off, none⟩ = some (.string z.key) ∧ ∀ ad, (if cap = 1 then some (⟨b, off, none⟩ : Addr) else some ⟨b, off + 4, none⟩) = ad → RdAttrs w (.slice ad (m - 1) (cap - 1)) r := by
  obtain ⟨a, m, cap, rfl, hm1, hm2, hm3, hm⟩ := h.sl
  have hml : m = r.length + 1 := hm.out.symm
  obtain ⟨b, off, xk, xa, xb, xt, hx, rfl, c0, c1, c2, c3, s1, s2⟩ := RdAttrs.at_ h 0 (by omega)
  simp only [List.getElem?_cons_zero, Option.some.injEq] at hx
  subst hx
  simp only [Nat.zero_mul, Nat.add_zero] at c0 c1 c2 c3
  refine ⟨b, off, m, cap, rfl, hml, hm1, hm2, hm3, ⟨b, off, rfl, c0, c1, c2, c3, s1, s2⟩, c0, fun ad had => ?_⟩
  by_cases hcap : cap = 1
  · have hr0 : r = [] := List.length_eq_zero_iff.1 (by omega)
    subst hr0 hcap
    rw [show m - 1 = 0 by omega]
    exact ⟨ad, 0, [], rfl, Nat.le_refl _, by simp [maxLen], by simp, rfl, fun h => absurd h (by simp)⟩
  · rw [if_neg hcap] at had
    subst had
    have := RdList.drop h 1 (by omega)
    simpa using this
def slLenA : Value → Nat
  | .slice _ n _ => n
  | _ => 0

set_option maxRecDepth 20000 in
set_option maxHeartbeats 8000000 in
theorem both_comp (w0 : World) (N B : Nat) (nulls : Bool) (a b : List Attr) (va vb : Value) (w : World) (hM : CoM w0 N B nulls [] w) (ha : RdAttrs w0 va a) (hb : RdAttrs w0 vb b) (hN : a.length + b.length ≤ 1099511627776) :
    Calls Tryz.prog 181 #[va, vb, .func (.func 182) #[] #[.pointer (some ⟨N, 0, none⟩), .pointer (some ⟨B, 0, none⟩)]] w fun e w' => e = .returned (.tuple #[]) ∧ CoM w0 N B nulls (compA nulls a b) w' := by
  rw [comp_flat]
  obtain ⟨T, hT⟩ : ∃ T, (mergeA a b).flatMap (addA nulls) = T := ⟨_, rfl⟩
  rw [hT]
  obtain ⟨aa, na, ca, rfl, -⟩ := ha.sl
  obtain ⟨ab, nb, cb, rfl, -⟩ := hb.sl
  have HM := Lib.hid hM
  have HT := Lib.hid hT; clear hT hM
  go_enter Tryz.func181, Tryz.ntmps181
  go_wp2
  go_loopw [0, 1] (fun x y wr => ∃ (p q done : List Attr), RdAttrs w0 x p ∧ RdAttrs w0 y q ∧ CoM w0 N B nulls done wr ∧ done ++ (mergeA p q).flatMap (addA nulls) = T ∧ done.length + p.length + q.length ≤ 1099511627776) (fun x y _ => slLenA x + slLenA y)
  case atStart => exact ⟨a, b, [], ha, hb, HM.out, HT.out, by simpa using hN⟩
  case round =>
    obtain ⟨p, q, done, hp, hq, hM, ht, hln⟩ := hrel
    have Ht := Lib.hid ht; clear ht
    have hgr := hM.gr
    have HM := Lib.hid hM; clear hM
    cases p with
    | nil =>
      cases q with
      | nil =>
        obtain ⟨xa, xn, xc, rfl, -, -, -, hxn⟩ := hp.sl
        obtain ⟨ya, yn, yc, rfl, -, -, -, hyn⟩ := hq.sl
        obtain rfl : xn = 0 := hxn.out.symm
        obtain rfl : yn = 0 := hyn.out.symm
        go_wp2
        go_end0
        have := Ht.out
        rw [merge_nil, List.flatMap_nil, List.append_nil] at this
        exact ⟨rfl, this ▸ HM.out⟩
      | cons y q =>
        obtain ⟨xa, xn, xc, rfl, -, -, -, hxn⟩ := hp.sl
        obtain rfl : xn = 0 := hxn.out.symm
        obtain ⟨yb, yo, ym, yc, rfl, hym, hym1, hym2, hym3, hyP0, hyk0, htly⟩ := rd_head hq
        have hyP := hyP0.gr hgr
        have hyk := hgr.cell hyk0
        obtain ⟨yd, hady⟩ : ∃ ad, (if yc = 1 then some (⟨yb, yo, none⟩ : Addr) else some ⟨yb, yo + 4, none⟩) = ad := ⟨_, rfl⟩
        have hyT := htly _ hady
        clear hyP0 hyk0 htly
        have hyz : (ym == 0) = false := by simp; omega
        have hyzi : ((ym : Int) == 0) = false := by simp; omega
        have hyp : 0 < ym := by omega
        have hyq : 1 ≤ ym := by omega
        have hyHm := Lib.hid hym
        clear hym
        go_wp2
        go_quiet (fail)
        go_wp2
        go_quiet (fail)
        go_wp2
        go_region_with (go_at_call 182; refine (comp1_y w0 N B nulls done _ _ _ y _ (HM.out.to (by repeat (with_reducible first | assumption | exact Gr.refl _ | apply Gr.alloc | apply Gr.drewN | apply Gr.drew | apply Gr.iter | (refine Gr.setCell ?_ (by simp) _) | (refine Gr.trans ?_ (by assumption))))) (hyP.gr (by repeat (with_reducible first | assumption | exact Gr.refl _ | apply Gr.alloc | apply Gr.drewN | apply Gr.drew | apply Gr.iter | (refine Gr.setCell ?_ (by simp) _) | (refine Gr.trans ?_ (by assumption))))) (by simp only [List.length_nil, List.length_cons] at hln; omega)).mono ?_; rintro e w1 ⟨rfl, hM1⟩)
        go_wp2
        go_roundw
        case rel => exact ⟨[], q, done ++ addA nulls y, hp, hyT, hM1, by rw [← Ht.out, merge_nil, merge_nil, List.flatMap_cons, List.append_assoc], by have := add_len nulls y; simp only [List.length_append, List.length_nil, List.length_cons] at hln ⊢; omega⟩
        case measure => simp [slLenA]; omega
    | cons x p =>
      obtain ⟨xb, xo, xm, xc, rfl, hxm, hxm1, hxm2, hxm3, hxP0, hxk0, htlx⟩ := rd_head hp
      have hxP := hxP0.gr hgr
      have hxk := hgr.cell hxk0
      obtain ⟨xd, hadx⟩ : ∃ ad, (if xc = 1 then some (⟨xb, xo, none⟩ : Addr) else some ⟨xb, xo + 4, none⟩) = ad := ⟨_, rfl⟩
      have hxT := htlx _ hadx
      clear hxP0 hxk0 htlx
      have hxz : (xm == 0) = false := by simp; omega
      have hxzi : ((xm : Int) == 0) = false := by simp; omega
      have hxp : 0 < xm := by omega
      have hxq : 1 ≤ xm := by omega
      have hxHm := Lib.hid hxm
      clear hxm
      cases q with
      | nil =>
        obtain ⟨ya, yn, yc, rfl, -, -, -, hyn⟩ := hq.sl
        obtain rfl : yn = 0 := hyn.out.symm
        go_wp2
        go_quiet (fail)
        go_wp2
        go_region_with (go_at_call 182; refine (comp1_x w0 N B nulls done _ _ x _ (HM.out.to (by repeat (with_reducible first | assumption | exact Gr.refl _ | apply Gr.alloc | apply Gr.drewN | apply Gr.drew | apply Gr.iter | (refine Gr.setCell ?_ (by simp) _) | (refine Gr.trans ?_ (by assumption))))) (hxP.gr (by repeat (with_reducible first | assumption | exact Gr.refl _ | apply Gr.alloc | apply Gr.drewN | apply Gr.drew | apply Gr.iter | (refine Gr.setCell ?_ (by simp) _) | (refine Gr.trans ?_ (by assumption))))) (by simp only [List.length_nil, List.length_cons] at hln; omega)).mono ?_; rintro e w1 ⟨rfl, hM1⟩)
        go_wp2
        go_roundw
        case rel => exact ⟨p, [], done ++ addA nulls x, hxT, hq, hM1, by rw [← Ht.out, merge_nil', merge_nil', List.flatMap_cons, List.append_assoc], by have := add_len nulls x; simp only [List.length_append, List.length_nil, List.length_cons] at hln ⊢; omega⟩
        case measure => simp [slLenA]; omega
      | cons y q =>
        obtain ⟨yb, yo, ym, yc, rfl, hym, hym1, hym2, hym3, hyP0, hyk0, htly⟩ := rd_head hq
        have hyP := hyP0.gr hgr
        have hyk := hgr.cell hyk0
        obtain ⟨yd, hady⟩ : ∃ ad, (if yc = 1 then some (⟨yb, yo, none⟩ : Addr) else some ⟨yb, yo + 4, none⟩) = ad := ⟨_, rfl⟩
        have hyT := htly _ hady
        clear hyP0 hyk0 htly
        have hyz : (ym == 0) = false := by simp; omega
        have hyzi : ((ym : Int) == 0) = false := by simp; omega
        have hyp : 0 < ym := by omega
        have hyq : 1 ≤ ym := by omega
        have hyHm := Lib.hid hym
        clear hym
        rcases merge_three x y with hk | hk | hk
        · have HK := Lib.hid hk
          go_wp2
          go_quiet (fail)
          go_wp2
          go_region_with (go_at_call 182; refine (comp1_x w0 N B nulls done _ _ x _ (HM.out.to (by repeat (with_reducible first | assumption | exact Gr.refl _ | apply Gr.alloc | apply Gr.drewN | apply Gr.drew | apply Gr.iter | (refine Gr.setCell ?_ (by simp) _) | (refine Gr.trans ?_ (by assumption))))) (hxP.gr (by repeat (with_reducible first | assumption | exact Gr.refl _ | apply Gr.alloc | apply Gr.drewN | apply Gr.drew | apply Gr.iter | (refine Gr.setCell ?_ (by simp) _) | (refine Gr.trans ?_ (by assumption))))) (by simp only [List.length_cons] at hln; omega)).mono ?_; rintro e w1 ⟨rfl, hM1⟩)
          go_wp2
          go_roundw
          case rel => exact ⟨p, y :: q, done ++ addA nulls x, hxT, hq, hM1, by rw [← Ht.out, merge_lt HK.out, List.flatMap_cons, List.append_assoc], by have := add_len nulls x; simp only [List.length_append, List.length_cons] at hln ⊢; omega⟩
          case measure => simp [slLenA]; omega
        · have HK := Lib.hid hk
          have hk' := keyLt_asymm hk
          go_wp2
          go_quiet (fail)
          go_wp2
          go_quiet (fail)
          go_wp2
          go_region_with (go_at_call 182; refine (comp1_y w0 N B nulls done _ _ _ y _ (HM.out.to (by repeat (with_reducible first | assumption | exact Gr.refl _ | apply Gr.alloc | apply Gr.drewN | apply Gr.drew | apply Gr.iter | (refine Gr.setCell ?_ (by simp) _) | (refine Gr.trans ?_ (by assumption))))) (hyP.gr (by repeat (with_reducible first | assumption | exact Gr.refl _ | apply Gr.alloc | apply Gr.drewN | apply Gr.drew | apply Gr.iter | (refine Gr.setCell ?_ (by simp) _) | (refine Gr.trans ?_ (by assumption))))) (by simp only [List.length_cons] at hln; omega)).mono ?_; rintro e w1 ⟨rfl, hM1⟩)
          go_wp2
          go_roundw
          case rel => exact ⟨x :: p, q, done ++ addA nulls y, hp, hyT, hM1, by rw [← Ht.out, merge_gt HK.out, List.flatMap_cons, List.append_assoc], by have := add_len nulls y; simp only [List.length_append, List.length_cons] at hln ⊢; omega⟩
          case measure => simp [slLenA]; omega
        · have HK := Lib.hid hk
          have hk1 : keyLt x.key y.key = false := by rw [hk]; exact keyLt_irrefl _
          have hk2 : keyLt y.key x.key = false := by rw [hk]; exact keyLt_irrefl _
          clear hk
          go_wp2
          go_quiet (fail)
          go_wp2
          go_quiet (fail)
          go_wp2
          go_region_with (go_at_call 182; refine (comp1_y w0 N B nulls done _ _ _ y _ (HM.out.to (by repeat (with_reducible first | assumption | exact Gr.refl _ | apply Gr.alloc | apply Gr.drewN | apply Gr.drew | apply Gr.iter | (refine Gr.setCell ?_ (by simp) _) | (refine Gr.trans ?_ (by assumption))))) (hyP.gr (by repeat (with_reducible first | assumption | exact Gr.refl _ | apply Gr.alloc | apply Gr.drewN | apply Gr.drew | apply Gr.iter | (refine Gr.setCell ?_ (by simp) _) | (refine Gr.trans ?_ (by assumption))))) (by simp only [List.length_cons] at hln; omega)).mono ?_; rintro e w1 ⟨rfl, hM1⟩)
          go_wp2
          go_quiet (fail)
          go_wp2
          go_roundw
          case rel => exact ⟨p, q, done ++ addA nulls y, hxT, hyT, hM1.to (by repeat (with_reducible first | assumption | exact Gr.refl _ | apply Gr.alloc | apply Gr.drewN | apply Gr.drew | apply Gr.iter | (refine Gr.setCell ?_ (by simp) _) | (refine Gr.trans ?_ (by assumption)))), by rw [← Ht.out, merge_eq HK.out, List.flatMap_cons, List.append_assoc], by have := add_len nulls y; simp only [List.length_append, List.length_cons] at hln ⊢; omega⟩
          case measure => simp [slLenA]; omega


set_option maxHeartbeats 1000000 in
theorem composed_any (a b : List Attr) (va vb : Value) (nulls : Bool) (w : World) (ha : RdAttrs w va a) (hb : RdAttrs w vb b) (hN : a.length + b.length ≤ 1099511627776) :
    Calls Tryz.prog 160 #[va, vb, .bool nulls] w fun e w' => ∃ v', e = .returned v' ∧ OwnL AttrR 4 w.heap.size 176 w' v' (compA nulls a b) ∧ Gr w w' := by
  obtain ⟨aa, na, ca, rfl, -⟩ := ha.sl
  obtain ⟨ab, nb, cb, rfl, -⟩ := hb.sl
  obtain ⟨C, hC⟩ : ∃ C, compA nulls a b = C := ⟨_, rfl⟩
  rw [hC]
  have HC := Lib.hid hC; clear hC
  have b1 := (Blk.new w 4 #[.bool nulls]).alloc (.cells #[.slice none 0 0] 61)
  have b2 := Blk.new (w.alloc (.cells #[.bool nulls] 4)) 61 #[.slice none 0 0]
  rw [World.size_alloc] at b2
  have hM : CoM w w.heap.size (w.heap.size + 1) nulls [] ((w.alloc (.cells #[.bool nulls] 4)).alloc (.cells #[.slice none 0 0] 61)) := ⟨(by repeat (with_reducible first | assumption | exact Gr.refl _ | apply Gr.alloc | apply Gr.drewN | apply Gr.drew | apply Gr.iter | (refine Gr.setCell ?_ (by simp) _) | (refine Gr.trans ?_ (by assumption)))), b1, ⟨_, b2, OwnL.nil ..⟩, Nat.le_refl _, Nat.le_succ _⟩
  have HM := Lib.hid hM; clear hM b1 b2
  have hmf : ∀ (fn : Fn) (first cap : Array Value) (w : World), (Instr.makeFunc fn first cap).run Tryz.prog w = .ok (.func fn first cap) w := fun _ _ _ _ => rfl
  go_enter Tryz.func160, Tryz.ntmps160
  go_wp2_with (go_at_call 181; refine (both_comp w w.heap.size (w.heap.size + 1) nulls a b _ _ _ HM.out ha hb hN).mono ?_; rw [HC.out]; rintro e w1 ⟨rfl, hM1⟩; obtain ⟨ov, hB1, hO1⟩ := hM1.ob; have hg1 := hM1.gr; obtain ⟨oa, on, oc, rfl, -⟩ := hO1.sl; have hob := hB1.cell 0; simp at hob)
  go_ret
  exact ⟨_, rfl, hO1, hg1⟩


set_option maxHeartbeats 1000000 in
theorem checked_ok {ea : Nat → Addr} (a b : List Attr) (va vb : Value) (n1 n2 : Bool) (w : World) (hE : Env ea w) (ha : RdAttrs w va a) (hb : RdAttrs w vb b) (h1 : checkAttrs n1 a = 0) (h2 : checkAttrs n2 b = 0) :
    Calls Tryz.prog 159 #[va, .bool n1, vb, .bool n2] w fun e w' => e = .returned .nilIface ∧ Gr w w' := by
  obtain ⟨aa, na, ca, rfl, -⟩ := ha.sl
  obtain ⟨ab, nb, cb, rfl, -⟩ := hb.sl
  have H1 := Lib.hid h1; have H2 := Lib.hid h2; clear h1 h2
  go_enter Tryz.func159, Tryz.ntmps159
  go_wp2_with (first
    | (go_at_call 176; (with_reducible refine (acheck_any a _ n1 _ (hE.gr (by repeat (with_reducible first | assumption | exact Gr.refl _ | apply Gr.alloc | apply Gr.drewN | apply Gr.drew | apply Gr.iter | (refine Gr.setCell ?_ (by simp) _) | (refine Gr.trans ?_ (by assumption))))) (RdAttrs.gr ha (by repeat (with_reducible first | assumption | exact Gr.refl _ | apply Gr.alloc | apply Gr.drewN | apply Gr.drew | apply Gr.iter | (refine Gr.setCell ?_ (by simp) _) | (refine Gr.trans ?_ (by assumption)))))).mono ?_); rw [H1.out, errOf_zero]; rintro e w1 ⟨rfl, hg1⟩)
    | (go_at_call 176; (with_reducible refine (acheck_any b _ n2 _ (hE.gr (by repeat (with_reducible first | assumption | exact Gr.refl _ | apply Gr.alloc | apply Gr.drewN | apply Gr.drew | apply Gr.iter | (refine Gr.setCell ?_ (by simp) _) | (refine Gr.trans ?_ (by assumption))))) (RdAttrs.gr hb (by repeat (with_reducible first | assumption | exact Gr.refl _ | apply Gr.alloc | apply Gr.drewN | apply Gr.drew | apply Gr.iter | (refine Gr.setCell ?_ (by simp) _) | (refine Gr.trans ?_ (by assumption)))))).mono ?_); rw [H2.out, errOf_zero]; rintro e w2 ⟨rfl, hg2⟩))
  go_ret
  exact ⟨rfl, (by repeat (with_reducible first | assumption | exact Gr.refl _ | apply Gr.alloc | apply Gr.drewN | apply Gr.drew | apply Gr.iter | (refine Gr.setCell ?_ (by simp) _) | (refine Gr.trans ?_ (by assumption))))⟩


set_option maxHeartbeats 1000000 in
theorem acomp_any {ea : Nat → Addr} (a b : List Attr) (va vb : Value) (nulls : Bool) (w : World) (hE : Env ea w) (ha : RdAttrs w va a) (hb : RdAttrs w vb b) (h1 : checkAttrs true a = 0) (h2 : checkAttrs true b = 0) (hN : a.length + b.length ≤ 1099511627776) :
    Calls Tryz.prog 148 #[va, vb, .bool nulls] w fun e w' => ∃ v', e = .returned (.tuple #[v', .nilIface]) ∧ OwnL AttrR 4 w.heap.size 176 w' v' (compA nulls a b) ∧ Gr w w' := by
  obtain ⟨aa, na, ca, rfl, -⟩ := ha.sl
  obtain ⟨ab, nb, cb, rfl, -⟩ := hb.sl
  go_enter Tryz.func148, Tryz.ntmps148
  go_wp2_with (first
    | (go_at_call 159; refine (checked_ok a b _ _ true true _ (hE.gr (by repeat (with_reducible first | assumption | exact Gr.refl _ | apply Gr.alloc | apply Gr.drewN | apply Gr.drew | apply Gr.iter | (refine Gr.setCell ?_ (by simp) _) | (refine Gr.trans ?_ (by assumption))))) (RdAttrs.gr ha (by repeat (with_reducible first | assumption | exact Gr.refl _ | apply Gr.alloc | apply Gr.drewN | apply Gr.drew | apply Gr.iter | (refine Gr.setCell ?_ (by simp) _) | (refine Gr.trans ?_ (by assumption))))) (RdAttrs.gr hb (by repeat (with_reducible first | assumption | exact Gr.refl _ | apply Gr.alloc | apply Gr.drewN | apply Gr.drew | apply Gr.iter | (refine Gr.setCell ?_ (by simp) _) | (refine Gr.trans ?_ (by assumption))))) h1 h2).mono ?_; rintro e w1 ⟨rfl, hg1⟩)
    | (go_at_call 160; refine (composed_any a b _ _ nulls _ (RdAttrs.gr ha (by repeat (with_reducible first | assumption | exact Gr.refl _ | apply Gr.alloc | apply Gr.drewN | apply Gr.drew | apply Gr.iter | (refine Gr.setCell ?_ (by simp) _) | (refine Gr.trans ?_ (by assumption))))) (RdAttrs.gr hb (by repeat (with_reducible first | assumption | exact Gr.refl _ | apply Gr.alloc | apply Gr.drewN | apply Gr.drew | apply Gr.iter | (refine Gr.setCell ?_ (by simp) _) | (refine Gr.trans ?_ (by assumption))))) hN).mono ?_; rintro e w2 ⟨v2, rfl, hO2, hg2⟩; have hz1 : w.heap.size ≤ w1.heap.size := Gr.size (w := w) (w' := w1) (by repeat (with_reducible first | assumption | exact Gr.refl _ | apply Gr.alloc | apply Gr.drewN | apply Gr.drew | apply Gr.iter | (refine Gr.setCell ?_ (by simp) _) | (refine Gr.trans ?_ (by assumption)))); obtain ⟨oa, on, oc, rfl, -⟩ := hO2.sl))
  go_ret2
  exact ⟨_, rfl, OwnL.base_le hO2 hz1, (by repeat (with_reducible first | assumption | exact Gr.refl _ | apply Gr.alloc | apply Gr.drewN | apply Gr.drew | apply Gr.iter | (refine Gr.setCell ?_ (by simp) _) | (refine Gr.trans ?_ (by assumption))))⟩

end Ve
