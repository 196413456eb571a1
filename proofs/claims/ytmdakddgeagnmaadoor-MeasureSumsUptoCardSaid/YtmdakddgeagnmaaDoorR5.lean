/- Walks of the references of layers 4, 5: Refuse, empty, Check. -/
import Derived.Test.YtmdakddgeagnmaaDoorR4
import Derived.Test.YtmdakddgeagnmaaDoorG6
set_option linter.all false
namespace Ve
open Go Go.RowKit Go.Proofs

set_option maxHeartbeats 4000000 in
theorem rrefuse_any {ea : Nat → Addr} (k : Int) (t : ByteArray) (va vb : Int) (vt : ByteArray) (c : Int) (sl : Value) (l : List Attr) (w : World) (hE : Env ea w) (hl : RdAttrs w sl l) (ht : szS t) (hvt : szS vt) :
    Calls Tryd.prog 70 #[.agg #[.int .i64 k, .string t, .int .i64 va, .int .i64 vb, .string vt, .int .i64 c, sl]] w fun e w' => e = .returned (.int .i64 (refuse ⟨k, t, ⟨va, vb, vt⟩, c, l⟩)) ∧ Gr w w' := by
  obtain ⟨a, cap, rfl, -⟩ := hl.slice
  have ht40 := ht.le40
  obtain ⟨vbt, hvb⟩ : ∃ b, validS t = b := ⟨_, rfl⟩
  have HB := Lib.hid hvb; clear hvb
  obtain ⟨P, hP⟩ : ∃ P, checkPlain ⟨va, vb, vt⟩ = P := ⟨_, rfl⟩
  have HP := Lib.hid hP; clear hP
  by_cases hk : k = 1 ∨ k = 2
  · rcases hk with rfl | rfl
    all_goals
      go_enter Tryd.func70, Tryd.ntmps70
      go_wp2_with (first
        | (go_at_call 78; refine (rutf8_any _ _ ht).mono ?_; rw [HB.out]; rintro e w' ⟨rfl, hg⟩; have hc0 := fun o => hg.cells w.heap.size o (by simp))
        | (go_at_call 79; refine (rvcheck_any _ _ _ _ hvt).mono ?_; rw [HP.out]; rintro e w2 ⟨rfl, hg2⟩; have hc2 := fun o => hg2.cells w.heap.size o (by have := hg.size; simp at this; omega))
        | (go_at_call 71; refine (racheck_any _ _ _ _ (hE.gr (by repeat (with_reducible first | assumption | exact Gr.refl _ | apply Gr.alloc | apply Gr.drewN | apply Gr.drew | apply Gr.iter | (refine Gr.setCell ?_ (by simp) _) | (refine Gr.trans ?_ (by assumption))))) (RdAttrs.gr hl (by repeat (with_reducible first | assumption | exact Gr.refl _ | apply Gr.alloc | apply Gr.drewN | apply Gr.drew | apply Gr.iter | (refine Gr.setCell ?_ (by simp) _) | (refine Gr.trans ?_ (by assumption)))))).mono ?_; rintro e w3 ⟨rfl, hg3⟩))
      all_goals go_ret
      all_goals refine ⟨ret_int ?_, (by repeat (with_reducible first | assumption | exact Gr.refl _ | apply Gr.alloc | apply Gr.drewN | apply Gr.drew | apply Gr.iter | (refine Gr.setCell ?_ (by simp) _) | (refine Gr.trans ?_ (by assumption))))⟩
      all_goals have hb := HB.out
      all_goals have hp := HP.out
      all_goals unfold validS at hb
      ((all_goals go_light); (all_goals (try simp_all [refuse, eqS, eqP, es, ep])); (all_goals (first | omega | rfl | (rw [Bool.eq_iff_iff]; simp; done) | (intros; omega) | (intros; simp_all; done) | (intros; simp_all; omega) | (split <;> simp_all; done) | (split <;> simp_all <;> omega))))
  · have k1 : (k == 1) = false := by simp; omega
    have k2 : (k == 2) = false := by simp; omega
    have k3 : (k != 1) = true := by simp; omega
    have k4 : (k != 2) = true := by simp; omega
    go_enter Tryd.func70, Tryd.ntmps70
    go_wp2
    go_ret
    refine ⟨ret_int ?_, (by repeat (with_reducible first | assumption | exact Gr.refl _ | apply Gr.alloc | apply Gr.drewN | apply Gr.drew | apply Gr.iter | (refine Gr.setCell ?_ (by simp) _) | (refine Gr.trans ?_ (by assumption))))⟩
    simp [refuse]; omega
set_option maxHeartbeats 1000000 in
theorem rempty_any (k : Int) (t : ByteArray) (va vb : Int) (vt : ByteArray) (c : Int) (sl : Value) (l : List Attr) (w : World) (hl : RdAttrs w sl l) :
    Calls Tryd.prog 69 #[.agg #[.int .i64 k, .string t, .int .i64 va, .int .i64 vb, .string vt, .int .i64 c, sl]] w fun e w' => e = .returned (.bool (hasOnly ⟨k, t, ⟨va, vb, vt⟩, c, l⟩)) ∧ Gr w w' := by
  obtain ⟨a, cap, rfl, -, -, hb⟩ := hl.slice
  go_enter Tryd.func69, Tryd.ntmps69
  go_wp2
  all_goals go_ret
  all_goals refine ⟨ret_bool ?_, (by repeat (with_reducible first | assumption | exact Gr.refl _ | apply Gr.alloc | apply Gr.drewN | apply Gr.drew | apply Gr.iter | (refine Gr.setCell ?_ (by simp) _) | (refine Gr.trans ?_ (by assumption))))⟩
  ((all_goals go_light); (all_goals (try simp_all [hasOnly, eqS, eqP, es, ep])); (all_goals (first | omega | rfl | (rw [Bool.eq_iff_iff]; simp; done) | (intros; omega) | (intros; simp_all; done) | (intros; simp_all; omega) | (split <;> simp_all; done) | (split <;> simp_all <;> omega))))
theorem hasOnly_kind {o : Op} (h : hasOnly o = true) : o.kind = 1 ∨ o.kind = 2 ∨ o.kind = 3 ∨ o.kind = 4 := by
  unfold hasOnly at h
  repeat' split at h
  all_goals simp_all
set_option maxHeartbeats 4000000 in
theorem rocheck_any {ea : Nat → Addr} (k : Int) (t : ByteArray) (va vb : Int) (vt : ByteArray) (c : Int) (sl : Value) (l : List Attr) (w : World) (hE : Env ea w) (hl : RdAttrs w sl l) (ht : szS t) (hvt : szS vt) :
    Calls Tryd.prog 64 #[.agg #[.int .i64 k, .string t, .int .i64 va, .int .i64 vb, .string vt, .int .i64 c, sl]] w fun e w' => e = .returned (.int .i64 (checkOp ⟨k, t, ⟨va, vb, vt⟩, c, l⟩)) ∧ Gr w w' := by
  obtain ⟨a, cap, rfl, -, -, hb⟩ := hl.slice
  obtain ⟨hh, hH⟩ : ∃ b, hasOnly ⟨k, t, ⟨va, vb, vt⟩, c, l⟩ = b := ⟨_, rfl⟩
  have HH := Lib.hid hH; clear hH
  go_enter Tryd.func64, Tryd.ntmps64
  go_wp2_with (first
    | (go_at_call 69; refine (rempty_any _ _ _ _ _ _ _ l _ (RdAttrs.gr hl (by repeat (with_reducible first | assumption | exact Gr.refl _ | apply Gr.alloc | apply Gr.drewN | apply Gr.drew | apply Gr.iter | (refine Gr.setCell ?_ (by simp) _) | (refine Gr.trans ?_ (by assumption)))))).mono ?_; rw [HH.out]; rintro e w' ⟨rfl, hg⟩; have hc0 := fun o => hg.cells w.heap.size o (by simp))
    | (go_at_call 70; refine (rrefuse_any _ _ _ _ _ _ _ l _ (hE.gr (by repeat (with_reducible first | assumption | exact Gr.refl _ | apply Gr.alloc | apply Gr.drewN | apply Gr.drew | apply Gr.iter | (refine Gr.setCell ?_ (by simp) _) | (refine Gr.trans ?_ (by assumption))))) (RdAttrs.gr hl (by repeat (with_reducible first | assumption | exact Gr.refl _ | apply Gr.alloc | apply Gr.drewN | apply Gr.drew | apply Gr.iter | (refine Gr.setCell ?_ (by simp) _) | (refine Gr.trans ?_ (by assumption))))) ht hvt).mono ?_; rintro e w2 ⟨rfl, hg2⟩)
    | (go_at_call 71; refine (racheck_any l _ _ _ (hE.gr (by repeat (with_reducible first | assumption | exact Gr.refl _ | apply Gr.alloc | apply Gr.drewN | apply Gr.drew | apply Gr.iter | (refine Gr.setCell ?_ (by simp) _) | (refine Gr.trans ?_ (by assumption))))) (RdAttrs.gr hl (by repeat (with_reducible first | assumption | exact Gr.refl _ | apply Gr.alloc | apply Gr.drewN | apply Gr.drew | apply Gr.iter | (refine Gr.setCell ?_ (by simp) _) | (refine Gr.trans ?_ (by assumption)))))).mono ?_; rintro e w3 ⟨rfl, hg3⟩))
  all_goals go_ret
  all_goals refine ⟨ret_int ?_, (by repeat (with_reducible first | assumption | exact Gr.refl _ | apply Gr.alloc | apply Gr.drewN | apply Gr.drew | apply Gr.iter | (refine Gr.setCell ?_ (by simp) _) | (refine Gr.trans ?_ (by assumption))))⟩
  all_goals have hk4 := fun h => hasOnly_kind (HH.out.trans h)
  all_goals have hh' := HH.out
  ((all_goals go_light); (all_goals (try simp_all [checkOp, maxLength])); (all_goals (first | omega | rfl | (rw [Bool.eq_iff_iff]; simp; done) | (intros; omega) | (intros; simp_all; done) | (intros; simp_all; omega) | (split <;> simp_all; done) | (split <;> simp_all <;> omega))))
end Ve
