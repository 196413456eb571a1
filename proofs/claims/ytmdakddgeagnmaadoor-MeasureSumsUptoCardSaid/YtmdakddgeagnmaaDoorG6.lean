/- Walks of layer 5, the program's side: ops.has, piece, Check, Of. -/
import Derived.Test.YtmdakddgeagnmaaDoorG5
import Derived.Deep.RegionWith
import Derived.Deep.RegionHeld3
set_option linter.all false
namespace Ve
open Go Go.RowKit Go.Proofs

set_option maxHeartbeats 1000000 in
theorem has_any (k : Int) (t : ByteArray) (va vb : Int) (vt : ByteArray) (c : Int) (sl : Value) (l : List Attr) (w : World) (hl : RdAttrs w sl l) :
    Calls Tryd.prog 73 #[.agg #[.int .i64 k, .string t, .int .i64 va, .int .i64 vb, .string vt, .int .i64 c, sl]] w fun e w' => e = .returned (.bool (hasOnly ⟨k, t, ⟨va, vb, vt⟩, c, l⟩)) ∧ Gr w w' := by
  obtain ⟨a, cap, rfl, -, -, hb⟩ := hl.slice
  go_enter Tryd.func73, Tryd.ntmps73
  go_wp2
  go_quiet (fail)
  go_wp2
  all_goals go_ret
  all_goals refine ⟨ret_bool ?_, (by repeat (with_reducible first | assumption | exact Gr.refl _ | apply Gr.alloc | apply Gr.drewN | apply Gr.drew | apply Gr.iter | (refine Gr.setCell ?_ (by simp) _) | (refine Gr.trans ?_ (by assumption))))⟩
  ((all_goals go_light); (all_goals (try simp_all [hasOnly, eqS, eqP, es, ep])); (all_goals (first | omega | rfl | (rw [Bool.eq_iff_iff]; simp; done) | (intros; omega) | (intros; simp_all; done) | (intros; simp_all; omega) | (split <;> simp_all; done) | (split <;> simp_all <;> omega))))
set_option maxHeartbeats 2000000 in
theorem piece_any {ea : Nat → Addr} (k : Int) (t : ByteArray) (va vb : Int) (vt : ByteArray) (c : Int) (sl : Value) (l : List Attr) (w : World) (hE : Env ea w) (hl : RdAttrs w sl l) (ht : szS t) (hvt : szS vt) :
    Calls Tryd.prog 67 #[.agg #[.int .i64 k, .string t, .int .i64 va, .int .i64 vb, .string vt, .int .i64 c, sl]] w (PieceRes ea (checkOp ⟨k, t, ⟨va, vb, vt⟩, c, l⟩) (toPiece ⟨k, t, ⟨va, vb, vt⟩, c, l⟩) w) := by
  obtain ⟨a, cap, rfl, -, -, hb⟩ := hl.slice
  have e9 := hE.e9; have z9 := cell_lt e9; have e11 := hE.e11; have z11 := cell_lt e11
  cases hh : hasOnly ⟨k, t, ⟨va, vb, vt⟩, c, l⟩ with
  | false =>
    have HH := Lib.hid hh; clear hh
    go_enter Tryd.func67, Tryd.ntmps67
    go_wp2_with (go_at_call 73; refine (has_any _ _ _ _ _ _ _ _ _ (RdAttrs.gr hl (by repeat (with_reducible first | assumption | exact Gr.refl _ | apply Gr.alloc | apply Gr.drewN | apply Gr.drew | apply Gr.iter | (refine Gr.setCell ?_ (by simp) _) | (refine Gr.trans ?_ (by assumption)))))).mono ?_; rw [HH.out]; rintro e w' ⟨rfl, hg⟩; have f9 := (hE.gr (w' := w') (by repeat (with_reducible first | assumption | exact Gr.refl _ | apply Gr.alloc | apply Gr.drewN | apply Gr.drew | apply Gr.iter | (refine Gr.setCell ?_ (by simp) _) | (refine Gr.trans ?_ (by assumption))))).e9)
    go_quiet (fail)
    go_wp2
    go_ret2
    have hc : checkOp ⟨k, t, ⟨va, vb, vt⟩, c, l⟩ = 9 := by simp [checkOp, HH.out]
    rw [hc]
    exact ⟨.nilIface, ret_two rfl rfl, (by repeat (with_reducible first | assumption | exact Gr.refl _ | apply Gr.alloc | apply Gr.drewN | apply Gr.drew | apply Gr.iter | (refine Gr.setCell ?_ (by simp) _) | (refine Gr.trans ?_ (by assumption)))), fun h => absurd h (by omega), fun _ => rfl⟩
  | true =>
    have HH := Lib.hid hh; clear hh
    by_cases hk : k = 1 ∨ k = 2
    · have hc : checkOp ⟨k, t, ⟨va, vb, vt⟩, c, l⟩ = refuse ⟨k, t, ⟨va, vb, vt⟩, c, l⟩ := by simp [checkOp, HH.out, hk]
      rw [hc]
      clear hc
      obtain ⟨R, hR⟩ : ∃ R, refuse ⟨k, t, ⟨va, vb, vt⟩, c, l⟩ = R := ⟨_, rfl⟩
      obtain ⟨p, hp⟩ : ∃ p, toPiece ⟨k, t, ⟨va, vb, vt⟩, c, l⟩ = p := ⟨_, rfl⟩
      rw [hR, hp]
      have HR := Lib.hid (And.intro hR hp); clear hR hp
      rcases hk with rfl | rfl
      all_goals
        go_enter Tryd.func67, Tryd.ntmps67
        go_wp2_with (first
          | (go_at_call 73; refine (has_any _ _ _ _ _ _ _ _ _ (RdAttrs.gr hl (by repeat (with_reducible first | assumption | exact Gr.refl _ | apply Gr.alloc | apply Gr.drewN | apply Gr.drew | apply Gr.iter | (refine Gr.setCell ?_ (by simp) _) | (refine Gr.trans ?_ (by assumption)))))).mono ?_; rw [HH.out]; rintro e w' ⟨rfl, hg⟩; have hc0 := fun o => hg.cells w.heap.size o (by simp))
          | (go_at_call 74; refine (cof_any _ _ _ _ _ _ _ _ _ (hE.gr (by repeat (with_reducible first | assumption | exact Gr.refl _ | apply Gr.alloc | apply Gr.drewN | apply Gr.drew | apply Gr.iter | (refine Gr.setCell ?_ (by simp) _) | (refine Gr.trans ?_ (by assumption))))) (RdAttrs.gr hl (by repeat (with_reducible first | assumption | exact Gr.refl _ | apply Gr.alloc | apply Gr.drewN | apply Gr.drew | apply Gr.iter | (refine Gr.setCell ?_ (by simp) _) | (refine Gr.trans ?_ (by assumption))))) ht hvt).mono ?_; rw [HR.out.1, HR.out.2]; rintro e w'' ⟨v, rfl, hg', hp, hn⟩; have HP := Lib.hid (And.intro hp hn); clear hp hn))
        go_ret2
        exact ⟨_, ret_two rfl rfl, (by repeat (with_reducible first | assumption | exact Gr.refl _ | apply Gr.alloc | apply Gr.drewN | apply Gr.drew | apply Gr.iter | (refine Gr.setCell ?_ (by simp) _) | (refine Gr.trans ?_ (by assumption)))), HP.out.1, HP.out.2⟩
    · have k1 : (k == 1) = false := by simp; omega
      have k2 : (k == 2) = false := by simp; omega
      by_cases h1 : c < 1
      · have hc : checkOp ⟨k, t, ⟨va, vb, vt⟩, c, l⟩ = 9 := by simp [checkOp, HH.out, hk, h1]
        rw [hc]
        clear hc hk
        go_enter Tryd.func67, Tryd.ntmps67
        go_wp2_with (go_at_call 73; refine (has_any _ _ _ _ _ _ _ _ _ (RdAttrs.gr hl (by repeat (with_reducible first | assumption | exact Gr.refl _ | apply Gr.alloc | apply Gr.drewN | apply Gr.drew | apply Gr.iter | (refine Gr.setCell ?_ (by simp) _) | (refine Gr.trans ?_ (by assumption)))))).mono ?_; rw [HH.out]; rintro e w' ⟨rfl, hg⟩; have hc0 := fun o => hg.cells w.heap.size o (by simp); have f9 := (hE.gr (w' := w') (by repeat (with_reducible first | assumption | exact Gr.refl _ | apply Gr.alloc | apply Gr.drewN | apply Gr.drew | apply Gr.iter | (refine Gr.setCell ?_ (by simp) _) | (refine Gr.trans ?_ (by assumption))))).e9)
        go_quiet (fail)
        go_wp2
        go_ret2
        exact ⟨.nilIface, ret_two rfl rfl, (by repeat (with_reducible first | assumption | exact Gr.refl _ | apply Gr.alloc | apply Gr.drewN | apply Gr.drew | apply Gr.iter | (refine Gr.setCell ?_ (by simp) _) | (refine Gr.trans ?_ (by assumption)))), fun h => absurd h (by omega), fun _ => rfl⟩
      · by_cases h2 : maxLength < c
        · have hc : checkOp ⟨k, t, ⟨va, vb, vt⟩, c, l⟩ = 11 := by simp [checkOp, HH.out, hk, h1, h2]
          rw [hc]
          clear hc hk
          unfold maxLength at h2
          go_enter Tryd.func67, Tryd.ntmps67
          go_wp2_with (go_at_call 73; refine (has_any _ _ _ _ _ _ _ _ _ (RdAttrs.gr hl (by repeat (with_reducible first | assumption | exact Gr.refl _ | apply Gr.alloc | apply Gr.drewN | apply Gr.drew | apply Gr.iter | (refine Gr.setCell ?_ (by simp) _) | (refine Gr.trans ?_ (by assumption)))))).mono ?_; rw [HH.out]; rintro e w' ⟨rfl, hg⟩; have hc0 := fun o => hg.cells w.heap.size o (by simp); have f11 := (hE.gr (w' := w') (by repeat (with_reducible first | assumption | exact Gr.refl _ | apply Gr.alloc | apply Gr.drewN | apply Gr.drew | apply Gr.iter | (refine Gr.setCell ?_ (by simp) _) | (refine Gr.trans ?_ (by assumption))))).e11)
          go_quiet (fail)
          go_wp2
          go_ret2
          exact ⟨.nilIface, ret_two rfl rfl, (by repeat (with_reducible first | assumption | exact Gr.refl _ | apply Gr.alloc | apply Gr.drewN | apply Gr.drew | apply Gr.iter | (refine Gr.setCell ?_ (by simp) _) | (refine Gr.trans ?_ (by assumption)))), fun h => absurd h (by omega), fun _ => rfl⟩
        · unfold maxLength at h2
          by_cases h4 : k = 4
          · subst h4
            have hc : checkOp ⟨4, t, ⟨va, vb, vt⟩, c, l⟩ = 0 := by simp [checkOp, HH.out, h1, h2, maxLength]
            have hp : toPiece ⟨4, t, ⟨va, vb, vt⟩, c, l⟩ = .del c := by simp [toPiece]
            rw [hc, hp]
            clear hc hp hk
            go_enter Tryd.func67, Tryd.ntmps67
            go_wp2_with (go_at_call 73; refine (has_any _ _ _ _ _ _ _ _ _ (RdAttrs.gr hl (by repeat (with_reducible first | assumption | exact Gr.refl _ | apply Gr.alloc | apply Gr.drewN | apply Gr.drew | apply Gr.iter | (refine Gr.setCell ?_ (by simp) _) | (refine Gr.trans ?_ (by assumption)))))).mono ?_; rw [HH.out]; rintro e w' ⟨rfl, hg⟩; have hc0 := fun o => hg.cells w.heap.size o (by simp))
            go_ret2
            exact ⟨_, ret_two rfl (errOf_zero ea).symm, (by repeat (with_reducible first | assumption | exact Gr.refl _ | apply Gr.alloc | apply Gr.drewN | apply Gr.drew | apply Gr.iter | (refine Gr.setCell ?_ (by simp) _) | (refine Gr.trans ?_ (by assumption)))), fun _ => rfl, fun h => absurd rfl h⟩
          · have h4' : (k == 4) = false := by simp; omega
            have hc : checkOp ⟨k, t, ⟨va, vb, vt⟩, c, l⟩ = checkAttrs true l := by simp [checkOp, HH.out, hk, h1, h2, h4, maxLength]
            have hp : toPiece ⟨k, t, ⟨va, vb, vt⟩, c, l⟩ = .ret l c := by simp only [toPiece]; rw [if_neg (by omega), if_neg (by omega), if_neg h4]
            rw [hc, hp]
            obtain ⟨R, hR⟩ : ∃ R, checkAttrs true l = R := ⟨_, rfl⟩
            rw [hR]
            have HR := Lib.hid (And.intro hR (And.intro hc hp)); clear hR hc hp
            by_cases h0 : R = 0
            · have h0' : decide (R = 0) = true := by simpa using h0
              have H0 := Lib.hid (And.intro h0 hk); clear h0 hk
              go_enter Tryd.func67, Tryd.ntmps67
              go_wp2_with (first
                | (go_at_call 73; refine (has_any _ _ _ _ _ _ _ _ _ (RdAttrs.gr hl (by repeat (with_reducible first | assumption | exact Gr.refl _ | apply Gr.alloc | apply Gr.drewN | apply Gr.drew | apply Gr.iter | (refine Gr.setCell ?_ (by simp) _) | (refine Gr.trans ?_ (by assumption)))))).mono ?_; rw [HH.out]; rintro e w' ⟨rfl, hg⟩; have hc0 := fun o => hg.cells w.heap.size o (by simp))
                | (go_at_call 75; refine (acheck_any _ _ _ _ (hE.gr (by repeat (with_reducible first | assumption | exact Gr.refl _ | apply Gr.alloc | apply Gr.drewN | apply Gr.drew | apply Gr.iter | (refine Gr.setCell ?_ (by simp) _) | (refine Gr.trans ?_ (by assumption))))) (RdAttrs.gr hl (by repeat (with_reducible first | assumption | exact Gr.refl _ | apply Gr.alloc | apply Gr.drewN | apply Gr.drew | apply Gr.iter | (refine Gr.setCell ?_ (by simp) _) | (refine Gr.trans ?_ (by assumption)))))).mono ?_; rw [HR.out.1]; rintro e w'' ⟨rfl, hg'⟩; have hc1 := fun o => hg'.cells w.heap.size o hg.lt; have hw : w.heap.size < w''.heap.size := Nat.lt_of_lt_of_le hg.lt hg'.size))
              have q5 : w''.cell? ⟨w.heap.size, 5, none⟩ = some (.int .i64 c) := by rw [hc1, hc0]; simp
              have q6 : w''.cell? ⟨w.heap.size, 6, none⟩ = some (.slice a l.length cap) := by rw [hc1, hc0]; simp
              clear hc0 hc1
              go_region_held3 (fun W => W.cell? ⟨w.heap.size, 5, none⟩ = some (.int .i64 c) ∧ W.cell? ⟨w.heap.size, 6, none⟩ = some (.slice a l.length cap)) (first | exact ⟨hg3.cell q5, hg3.cell q6⟩ | go_keep) (first | (go_at_call 76; refine (cloneA_any l _ _ (RdAttrs.gr hl (by repeat (with_reducible first | assumption | exact Gr.refl _ | apply Gr.alloc | apply Gr.drewN | apply Gr.drew | apply Gr.iter | (refine Gr.setCell ?_ (by simp) _) | (refine Gr.trans ?_ (by assumption)))))).mono ?_; rintro e w3 ⟨v', rfl, ho, hg3⟩; obtain ⟨a', c', rfl, -⟩ := ho.slice))
              all_goals
                go_wp2
                go_ret2
                refine ⟨_, ret_two rfl ?_, (by repeat (with_reducible first | assumption | exact Gr.refl _ | apply Gr.alloc | apply Gr.drewN | apply Gr.drew | apply Gr.iter | (refine Gr.setCell ?_ (by simp) _) | (refine Gr.trans ?_ (by assumption)))), fun _ => ?_, fun h => absurd H0.out.1 h⟩
                · rw [H0.out.1, errOf_zero]; rfl
                · exact ⟨_, rfl, OwnL.gr (w := w3) (ho.base_le (Nat.zero_le _)) (fun _ _ h => h) (by repeat (with_reducible first | assumption | exact Gr.refl _ | apply Gr.alloc | apply Gr.drewN | apply Gr.drew | apply Gr.iter | (refine Gr.setCell ?_ (by simp) _) | (refine Gr.trans ?_ (by assumption)))), hb⟩
            · have h0' : decide (R = 0) = false := by simpa using h0
              have H0 := Lib.hid (And.intro h0 hk); clear h0 hk
              go_enter Tryd.func67, Tryd.ntmps67
              go_wp2_with (first
                | (go_at_call 73; refine (has_any _ _ _ _ _ _ _ _ _ (RdAttrs.gr hl (by repeat (with_reducible first | assumption | exact Gr.refl _ | apply Gr.alloc | apply Gr.drewN | apply Gr.drew | apply Gr.iter | (refine Gr.setCell ?_ (by simp) _) | (refine Gr.trans ?_ (by assumption)))))).mono ?_; rw [HH.out]; rintro e w' ⟨rfl, hg⟩; have hc0 := fun o => hg.cells w.heap.size o (by simp))
                | (go_at_call 75; refine (acheck_any _ _ _ _ (hE.gr (by repeat (with_reducible first | assumption | exact Gr.refl _ | apply Gr.alloc | apply Gr.drewN | apply Gr.drew | apply Gr.iter | (refine Gr.setCell ?_ (by simp) _) | (refine Gr.trans ?_ (by assumption))))) (RdAttrs.gr hl (by repeat (with_reducible first | assumption | exact Gr.refl _ | apply Gr.alloc | apply Gr.drewN | apply Gr.drew | apply Gr.iter | (refine Gr.setCell ?_ (by simp) _) | (refine Gr.trans ?_ (by assumption)))))).mono ?_; rw [HR.out.1]; rintro e w'' ⟨rfl, hg'⟩))
              go_ret2
              exact ⟨.nilIface, rfl, (by repeat (with_reducible first | assumption | exact Gr.refl _ | apply Gr.alloc | apply Gr.drewN | apply Gr.drew | apply Gr.iter | (refine Gr.setCell ?_ (by simp) _) | (refine Gr.trans ?_ (by assumption)))), fun h => absurd h H0.out.1, fun _ => rfl⟩
set_option maxHeartbeats 400000 in
theorem ocheck_any {ea : Nat → Addr} (k : Int) (t : ByteArray) (va vb : Int) (vt : ByteArray) (c : Int) (sl : Value) (l : List Attr) (w : World) (hE : Env ea w) (hl : RdAttrs w sl l) (ht : szS t) (hvt : szS vt) :
    Calls Tryd.prog 57 #[.agg #[.int .i64 k, .string t, .int .i64 va, .int .i64 vb, .string vt, .int .i64 c, sl]] w fun e w' => e = .returned (errOf ea (checkOp ⟨k, t, ⟨va, vb, vt⟩, c, l⟩)) ∧ Gr w w' := by
  obtain ⟨a, cap, rfl, -, -, hb⟩ := hl.slice
  go_enter Tryd.func57, Tryd.ntmps57
  go_wp2_with (go_at_call 67; refine (piece_any _ _ _ _ _ _ _ _ _ (hE.gr (by repeat (with_reducible first | assumption | exact Gr.refl _ | apply Gr.alloc | apply Gr.drewN | apply Gr.drew | apply Gr.iter | (refine Gr.setCell ?_ (by simp) _) | (refine Gr.trans ?_ (by assumption))))) (RdAttrs.gr hl (by repeat (with_reducible first | assumption | exact Gr.refl _ | apply Gr.alloc | apply Gr.drewN | apply Gr.drew | apply Gr.iter | (refine Gr.setCell ?_ (by simp) _) | (refine Gr.trans ?_ (by assumption))))) ht hvt).mono ?_; rintro e w' ⟨v, rfl, hg, -, -⟩)
  go_ret
  exact ⟨rfl, (by repeat (with_reducible first | assumption | exact Gr.refl _ | apply Gr.alloc | apply Gr.drewN | apply Gr.drew | apply Gr.iter | (refine Gr.setCell ?_ (by simp) _) | (refine Gr.trans ?_ (by assumption))))⟩
end Ve
