/- Walks of layer 2, the program's side: values.Check, value, Of. -/
import Derived.Test.YtmdakddgeagnmaaDoorG1
set_option linter.all false
namespace Ve
open Go Go.RowKit Go.Proofs

theorem eqS_true {a b : ByteArray} : eqS a b = true ↔ a = b := by simp [eqS]
theorem eqS_false {a b : ByteArray} : eqS a b = false ↔ a ≠ b := by simp [eqS]
theorem utf8Err_zero {s : ByteArray} : utf8Err s = 0 ↔ brk s = s.size := by unfold utf8Err; split <;> simp_all
set_option maxHeartbeats 1000000 in
theorem vcheck_any {ea : Nat → Addr} (k n : Int) (t : ByteArray) (w : World) (hE : Env ea w) (hs : t.size ≤ 9223372036854775807) :
    Calls Tryd.prog 93 #[.agg #[.int .i64 k, .int .i64 n, .string t]] w fun e w' => e = .returned (errOf ea (checkPlain ⟨k, n, t⟩)) ∧ Gr w w' := by
  have e5 := hE.e5; have z5 := cell_lt e5; have e1 := hE.e1; have z1 := cell_lt e1; have e10 := hE.e10; have z10 := cell_lt e10
  go_enter Tryd.func93, Tryd.ntmps93
  go_wp2
  go_quiet (fail)
  go_wp2_with (go_at_call 92; refine (scheck_any _ _ (hE.gr (by repeat (with_reducible first | assumption | exact Gr.refl _ | apply Gr.alloc | apply Gr.drewN | apply Gr.drew | apply Gr.iter | (refine Gr.setCell ?_ (by simp) _) | (refine Gr.trans ?_ (by assumption))))) hs).mono ?_; rintro e w' ⟨rfl, hg⟩; have f1 := (hE.gr (Gr.trans (by repeat (with_reducible first | assumption | exact Gr.refl _ | apply Gr.alloc | apply Gr.drewN | apply Gr.drew | apply Gr.iter | (refine Gr.setCell ?_ (by simp) _) | (refine Gr.trans ?_ (by assumption)))) hg)).e1; have f10 := (hE.gr (Gr.trans (by repeat (with_reducible first | assumption | exact Gr.refl _ | apply Gr.alloc | apply Gr.drewN | apply Gr.drew | apply Gr.iter | (refine Gr.setCell ?_ (by simp) _) | (refine Gr.trans ?_ (by assumption)))) hg)).e10; have hc0 := fun o => hg.cells w.heap.size o (by simp))
  all_goals go_ret
  all_goals
    refine ⟨?_, (by repeat (with_reducible first | assumption | exact Gr.refl _ | apply Gr.alloc | apply Gr.drewN | apply Gr.drew | apply Gr.iter | (refine Gr.setCell ?_ (by simp) _) | (refine Gr.trans ?_ (by assumption))))⟩
    first
    | refine ret_err ?_
    | refine ret_nil ?_
  all_goals
    simp_all [checkPlain, kindOk, eqS, es, utf8Err_zero]
  all_goals omega
set_option maxHeartbeats 400000 in
theorem value_any (k n : Int) (t : ByteArray) (w : World) :
    Calls Tryd.prog 95 #[.agg #[.int .i64 k, .int .i64 n, .string t]] w fun e w' => e = .returned (valV ⟨k, n, t⟩) ∧ Gr w w' := by
  go_enter Tryd.func95, Tryd.ntmps95
  go_wp2
  all_goals go_ret
  all_goals refine ⟨?_, (by repeat (with_reducible first | assumption | exact Gr.refl _ | apply Gr.alloc | apply Gr.drewN | apply Gr.drew | apply Gr.iter | (refine Gr.setCell ?_ (by simp) _) | (refine Gr.trans ?_ (by assumption))))⟩
  all_goals (unfold valV; simp_all)
/-- A call that answers a piece and an error. -/
def PieceRes (ea : Nat → Addr) (c : Int) (p : Piece) (w : World) (e : Ending) (w' : World) : Prop :=
  ∃ v, e = .returned (.tuple #[v, errOf ea c]) ∧ Gr w w' ∧ (c = 0 → PieceV w' p v) ∧ (c ≠ 0 → v = .nilIface)
def orNil (c : Int) (v : Value) : Value := if c = 0 then v else .nilIface
theorem orNil_zero (v : Value) : orNil 0 v = v := rfl
theorem orNil_pos {c : Int} (h : c ≠ 0) (v : Value) : orNil c v = .nilIface := if_neg h
attribute [irreducible] orNil
theorem ret_two {a b c d : Value} (h : a = b) (h' : c = d) : Ending.returned (.tuple #[a, c]) = .returned (.tuple #[b, d]) := by rw [h, h']
set_option maxHeartbeats 400000 in
theorem vof_any {ea : Nat → Addr} (k n : Int) (t : ByteArray) (w : World) (hE : Env ea w) (hs : t.size ≤ 9223372036854775807) :
    Calls Tryd.prog 86 #[.agg #[.int .i64 k, .int .i64 n, .string t]] w fun e w' =>
      e = .returned (.tuple #[orNil (checkPlain ⟨k, n, t⟩) (valV ⟨k, n, t⟩), errOf ea (checkPlain ⟨k, n, t⟩)]) ∧ Gr w w' := by
  go_enter Tryd.func86, Tryd.ntmps86
  go_wp2_with (first
    | (go_at_call 93; refine (vcheck_any _ _ _ _ (hE.gr (by repeat (with_reducible first | assumption | exact Gr.refl _ | apply Gr.alloc | apply Gr.drewN | apply Gr.drew | apply Gr.iter | (refine Gr.setCell ?_ (by simp) _) | (refine Gr.trans ?_ (by assumption))))) hs).mono ?_; rintro e w' ⟨rfl, hg⟩; have hc0 := fun o => hg.cells w.heap.size o (by simp))
    | (go_at_call 95; refine (value_any _ _ _ _).mono ?_; rintro e w'' ⟨rfl, hg'⟩))
  all_goals go_ret2
  · rename_i h
    refine ⟨ret_two ?_ rfl, (by repeat (with_reducible first | assumption | exact Gr.refl _ | apply Gr.alloc | apply Gr.drewN | apply Gr.drew | apply Gr.iter | (refine Gr.setCell ?_ (by simp) _) | (refine Gr.trans ?_ (by assumption))))⟩
    simp at h; rw [orNil_pos h]; rfl
  · rename_i h
    simp at h
    refine ⟨ret_two ?_ ?_, (by repeat (with_reducible first | assumption | exact Gr.refl _ | apply Gr.alloc | apply Gr.drewN | apply Gr.drew | apply Gr.iter | (refine Gr.setCell ?_ (by simp) _) | (refine Gr.trans ?_ (by assumption))))⟩
    · rw [h, orNil_zero]; rfl
    · rw [h, errOf_zero]; rfl
end Ve
