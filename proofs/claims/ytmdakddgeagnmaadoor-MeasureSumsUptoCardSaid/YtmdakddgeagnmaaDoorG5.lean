/- Walks of layers 4 and 5, the program's side: content.Of, ops.has, piece, Check, Of. -/
import Derived.Test.YtmdakddgeagnmaaDoorG4
set_option linter.all false
namespace Ve
open Go Go.RowKit Go.Proofs

theorem refuse_text {k : Int} {t : ByteArray} {v : Plain} {c : Int} {l : List Attr} (h : refuse ⟨k, t, v, c, l⟩ = 0) : (k = 1 ∨ k = 2) ∧ brk t = t.size ∧ (k = 2 → checkPlain v = 0) := by
  unfold refuse at h
  repeat' split at h
  all_goals simp_all
  all_goals omega
set_option maxHeartbeats 2000000 in
theorem cof_any {ea : Nat → Addr} (k : Int) (t : ByteArray) (va vb : Int) (vt : ByteArray) (c : Int) (sl : Value) (l : List Attr) (w : World) (hE : Env ea w) (hl : RdAttrs w sl l) (ht : szS t) (hvt : szS vt) :
    Calls Tryd.prog 74 #[.agg #[.int .i64 k, .string t, .int .i64 va, .int .i64 vb, .string vt, .int .i64 c, sl]] w (PieceRes ea (refuse ⟨k, t, ⟨va, vb, vt⟩, c, l⟩) (toPiece ⟨k, t, ⟨va, vb, vt⟩, c, l⟩) w) := by
  obtain ⟨a, cap, rfl, -, -, hb⟩ := hl.slice
  obtain ⟨R, hR⟩ : ∃ R, refuse ⟨k, t, ⟨va, vb, vt⟩, c, l⟩ = R := ⟨_, rfl⟩
  rw [hR]
  have HR := Lib.hid hR; clear hR
  by_cases h0 : R = 0
  · have hT := refuse_text (HR.out.trans h0)
    have c0 : decide (R = 0) = true := by simpa using h0
    have H0 := Lib.hid h0; clear h0
    obtain ⟨hk, hbr, hval⟩ := hT
    have u0 : decide (utf8Err t = 0) = true := by simp [utf8Err_zero, hbr]
    rcases hk with rfl | rfl
    · have HB := Lib.hid hbr; clear hbr hval
      go_enter Tryd.func74, Tryd.ntmps74
      go_wp2_with (first
        | (go_at_call 83; refine (refuse_any _ _ _ _ _ _ _ _ _ (hE.gr (by repeat (with_reducible first | assumption | exact Gr.refl _ | apply Gr.alloc | apply Gr.drewN | apply Gr.drew | apply Gr.iter | (refine Gr.setCell ?_ (by simp) _) | (refine Gr.trans ?_ (by assumption))))) (RdAttrs.gr hl (by repeat (with_reducible first | assumption | exact Gr.refl _ | apply Gr.alloc | apply Gr.drewN | apply Gr.drew | apply Gr.iter | (refine Gr.setCell ?_ (by simp) _) | (refine Gr.trans ?_ (by assumption))))) ht hvt).mono ?_; rw [HR.out]; rintro e w' ⟨rfl, hg⟩; have hc0 := fun o => hg.cells w.heap.size o (by simp))
        | (go_at_call 84; refine (copied_any l _ _ (RdAttrs.gr hl (by repeat (with_reducible first | assumption | exact Gr.refl _ | apply Gr.alloc | apply Gr.drewN | apply Gr.drew | apply Gr.iter | (refine Gr.setCell ?_ (by simp) _) | (refine Gr.trans ?_ (by assumption)))))).mono ?_; rintro e w'' ⟨v', rfl, ho, hg'⟩; obtain ⟨a', c', rfl, -⟩ := ho.slice; have hc1 := fun o => hg'.cells w.heap.size o hg.lt; have hw : w.heap.size < w''.heap.size := Nat.lt_of_lt_of_le hg.lt hg'.size)
        | (go_at_call 85; refine (slen_any _ _ (hE.gr (by repeat (with_reducible first | assumption | exact Gr.refl _ | apply Gr.alloc | apply Gr.drewN | apply Gr.drew | apply Gr.iter | (refine Gr.setCell ?_ (by simp) _) | (refine Gr.trans ?_ (by assumption))))) ht.lt).mono ?_; rintro e w3 ⟨rfl, hg3⟩; have hc2 := fun o => hg3.cells w.heap.size o (by simp only [World.size_alloc]; omega); have hc3 := fun o => hg3.cells w''.heap.size o (by simp)))
      go_ret2
      refine ⟨_, ret_two rfl ?_, (by repeat (with_reducible first | assumption | exact Gr.refl _ | apply Gr.alloc | apply Gr.drewN | apply Gr.drew | apply Gr.iter | (refine Gr.setCell ?_ (by simp) _) | (refine Gr.trans ?_ (by assumption)))), fun _ => ?_, fun h => absurd H0.out h⟩
      · rw [H0.out, errOf_zero]; rfl
      · refine ⟨.slice a' l.length c', ?_, ⟨OwnL.gr (w := w'') (ho.base_le (Nat.zero_le _)) (fun _ _ h => h) (by repeat (with_reducible first | assumption | exact Gr.refl _ | apply Gr.alloc | apply Gr.drewN | apply Gr.drew | apply Gr.iter | (refine Gr.setCell ?_ (by simp) _) | (refine Gr.trans ?_ (by assumption)))), hb⟩, ht⟩
        rw [lenS_ok HB.out]; rfl
    · have c1 := hval rfl
      obtain ⟨T, y, hv⟩ := valV_form ⟨va, vb, vt⟩
      have HV := Lib.hid hv; clear hv
      have HC := Lib.hid c1; clear c1
      clear hval hbr
      go_enter Tryd.func74, Tryd.ntmps74
      go_wp2_with (first
        | (go_at_call 83; refine (refuse_any _ _ _ _ _ _ _ _ _ (hE.gr (by repeat (with_reducible first | assumption | exact Gr.refl _ | apply Gr.alloc | apply Gr.drewN | apply Gr.drew | apply Gr.iter | (refine Gr.setCell ?_ (by simp) _) | (refine Gr.trans ?_ (by assumption))))) (RdAttrs.gr hl (by repeat (with_reducible first | assumption | exact Gr.refl _ | apply Gr.alloc | apply Gr.drewN | apply Gr.drew | apply Gr.iter | (refine Gr.setCell ?_ (by simp) _) | (refine Gr.trans ?_ (by assumption))))) ht hvt).mono ?_; rw [HR.out]; rintro e w' ⟨rfl, hg⟩; have hc0 := fun o => hg.cells w.heap.size o (by simp))
        | (go_at_call 84; refine (copied_any l _ _ (RdAttrs.gr hl (by repeat (with_reducible first | assumption | exact Gr.refl _ | apply Gr.alloc | apply Gr.drewN | apply Gr.drew | apply Gr.iter | (refine Gr.setCell ?_ (by simp) _) | (refine Gr.trans ?_ (by assumption)))))).mono ?_; rintro e w'' ⟨v', rfl, ho, hg'⟩; obtain ⟨a', c', rfl, -⟩ := ho.slice; have hc1 := fun o => hg'.cells w.heap.size o hg.lt; have hw : w.heap.size < w''.heap.size := Nat.lt_of_lt_of_le hg.lt hg'.size)
        | (go_at_call 86; refine (vof_any _ _ _ _ (hE.gr (by repeat (with_reducible first | assumption | exact Gr.refl _ | apply Gr.alloc | apply Gr.drewN | apply Gr.drew | apply Gr.iter | (refine Gr.setCell ?_ (by simp) _) | (refine Gr.trans ?_ (by assumption))))) hvt.le).mono ?_; rw [HC.out, orNil_zero, HV.out, errOf_zero]; rintro e w3 ⟨rfl, hg3⟩; have hc2 := fun o => hg3.cells w.heap.size o (by simp only [World.size_alloc]; omega); have hc3 := fun o => hg3.cells w''.heap.size o (by simp)))
      go_ret2
      refine ⟨_, ret_two rfl ?_, (by repeat (with_reducible first | assumption | exact Gr.refl _ | apply Gr.alloc | apply Gr.drewN | apply Gr.drew | apply Gr.iter | (refine Gr.setCell ?_ (by simp) _) | (refine Gr.trans ?_ (by assumption)))), fun _ => ?_, fun h => absurd H0.out h⟩
      · rw [H0.out, errOf_zero]; rfl
      · refine ⟨.slice a' l.length c', ?_, ⟨OwnL.gr (w := w'') (ho.base_le (Nat.zero_le _)) (fun _ _ h => h) (by repeat (with_reducible first | assumption | exact Gr.refl _ | apply Gr.alloc | apply Gr.drewN | apply Gr.drew | apply Gr.iter | (refine Gr.setCell ?_ (by simp) _) | (refine Gr.trans ?_ (by assumption)))), hb⟩, ht, hvt⟩
        rw [HV.out]; rfl
  · have c0 : decide (R = 0) = false := by simpa using h0
    have H0 := Lib.hid h0; clear h0
    go_enter Tryd.func74, Tryd.ntmps74
    go_wp2_with (go_at_call 83; refine (refuse_any _ _ _ _ _ _ _ _ _ (hE.gr (by repeat (with_reducible first | assumption | exact Gr.refl _ | apply Gr.alloc | apply Gr.drewN | apply Gr.drew | apply Gr.iter | (refine Gr.setCell ?_ (by simp) _) | (refine Gr.trans ?_ (by assumption))))) (RdAttrs.gr hl (by repeat (with_reducible first | assumption | exact Gr.refl _ | apply Gr.alloc | apply Gr.drewN | apply Gr.drew | apply Gr.iter | (refine Gr.setCell ?_ (by simp) _) | (refine Gr.trans ?_ (by assumption))))) ht hvt).mono ?_; rw [HR.out]; rintro e w' ⟨rfl, hg⟩; have hc0 := fun o => hg.cells w.heap.size o (by simp))
    go_ret2
    exact ⟨.nilIface, rfl, (by repeat (with_reducible first | assumption | exact Gr.refl _ | apply Gr.alloc | apply Gr.drewN | apply Gr.drew | apply Gr.iter | (refine Gr.setCell ?_ (by simp) _) | (refine Gr.trans ?_ (by assumption)))), fun h => absurd h H0.out, fun _ => rfl⟩
end Ve
