/- The law PlacesBack. -/
import Derived.Test.YtmdakddgeagnmaaDoorF3
import Derived.Test.YtmdakddgeagnmaaDoorM2
set_option linter.all false
namespace Ve
open Go Go.RowKit Go.Proofs

/-- What the law takes a number for, under a size. -/
def modL (s n : Int) : Int := IntKind.u64.wrap n % s
theorem modL_bounds {s : Int} (n : Int) (h : 0 < s) : 0 ≤ modL s n ∧ modL s n < s := ⟨Int.emod_nonneg _ (by omega), Int.emod_lt_of_pos _ h⟩
theorem modL_wrap {s : Int} (n : Int) (h : 0 < s) (hs : s ≤ 1099511627781) : wrap64 ((IntKind.u64.wrap n).tmod s) = modL s n := by
  obtain ⟨h1, h2⟩ := modL_bounds (s := s) n h
  rw [Int.tmod_eq_emod_of_nonneg (u64_nn n)]
  unfold modL at *
  unfold wrap64
  omega
theorem backAt_two {ps : List Piece} {Z : Int} (h : 0 ≤ Z) : (backAt ps Z = (backP Z 0 0 ps, 0)) ∨ ((1099511627776 < Z ∨ 1099511627776 < backP Z 0 0 ps) ∧ (backAt ps Z).2 ≠ 0) := by
  unfold backAt
  by_cases c : Z ≤ 1099511627776
  · by_cases d : 1099511627776 < backP Z 0 0 ps
    · right; refine ⟨.inr d, ?_⟩; rw [if_pos (show 0 ≤ Z ∧ Z ≤ 1099511627776 from ⟨h, c⟩), if_pos d]; simp
    · left; rw [if_pos (show 0 ≤ Z ∧ Z ≤ 1099511627776 from ⟨h, c⟩), if_neg d]
  · right; refine ⟨.inl (by omega), ?_⟩; rw [if_neg (show ¬ (0 ≤ Z ∧ Z ≤ 1099511627776) from fun e => c e.2)]; simp
/-- What the law says of going back from two places. -/
theorem back_law {ps : List Piece} {X Y : Int} (h : ∀ x ∈ ps, 0 ≤ x.len) (h0 : 0 ≤ X) (h1 : X ≤ Y) (h2 : Y < rsum ps + 5) :
    ((backAt ps X).2 ≠ 0 ∨ (backAt ps Y).2 ≠ 0 → 1099511627776 < bsum ps + rsum ps + 10) ∧ ((backAt ps X).2 = 0 → (backAt ps Y).2 = 0 → (backAt ps X).1 ≤ (backAt ps Y).1 ∧ 0 ≤ (backAt ps X).1 ∧ (backAt ps Y).1 ≤ bsum ps + max 0 (Y - rsum ps)) := by
  have m := back_mono (g := 0) (out := 0) h1 h h0
  have n := (back_ge (q := X) (g := 0) (out := 0) h h0).1
  have lx := back_le (q := X) (g := 0) (out := 0) h h0
  have ly := back_le (q := Y) (g := 0) (out := 0) h (by omega)
  have b0 := bsum_nn h
  have r0 := rsum_nn h
  rcases backAt_two (ps := ps) h0 with ex | ⟨fx, ex⟩
  · rcases backAt_two (ps := ps) (show 0 ≤ Y by omega) with ey | ⟨fy, ey⟩
    · rw [ex, ey]; exact ⟨fun e => by simp at e, fun _ _ => ⟨m, n, by simp only; omega⟩⟩
    · exact ⟨fun _ => by omega, fun _ e => absurd e ey⟩
  · exact ⟨fun _ => by omega, fun e => absurd e ex⟩
theorem back_nn {p : Int} {ps : List Piece} (h : ∀ x ∈ ps, 0 ≤ x.len) (hp : 0 ≤ p) : 0 ≤ backP p 0 0 ps := (back_ge (g := 0) (out := 0) h hp).1
set_option maxRecDepth 20000 in
set_option maxHeartbeats 8000000 in
theorem placesBack_any {ea : Nat → Addr} (l : List Op) (v : Value) (m n : Int) (w : World) (hE : Env ea w) (hl : RdOps w v l) (hT : opsum l ≤ 1099511627776) (hN : 2 * l.length + 2 ≤ 1099511627776) :
    Calls Tryd.prog 7 #[v, .int .i64 m, .int .i64 n] w fun e w' => e = .returned (.bool true) ∧ Gr w w' := by
  obtain ⟨a, k, cap, rfl, -, -, -, -⟩ := hl.sl
  cases hc : canonL l with
  | false =>
    have HC := Lib.hid hc; clear hc
    go_enter Tryd.func7, Tryd.ntmps7
    go_wp2_with (first
      | (go_at_call 8; refine (fixed14_any _ (hE.gr (by repeat (with_reducible first | assumption | exact Gr.refl _ | apply Gr.alloc | apply Gr.drewN | apply Gr.drew | apply Gr.iter | (refine Gr.setCell ?_ (by simp) _) | (refine Gr.trans ?_ (by assumption)))))).mono ?_; rintro e w1 ⟨rfl, hg1⟩)
      | (go_at_call 9; refine (of14_no l _ _ (hE.gr (by repeat (with_reducible first | assumption | exact Gr.refl _ | apply Gr.alloc | apply Gr.drewN | apply Gr.drew | apply Gr.iter | (refine Gr.setCell ?_ (by simp) _) | (refine Gr.trans ?_ (by assumption))))) (RdOps.gr hl (by repeat (with_reducible first | assumption | exact Gr.refl _ | apply Gr.alloc | apply Gr.drewN | apply Gr.drew | apply Gr.iter | (refine Gr.setCell ?_ (by simp) _) | (refine Gr.trans ?_ (by assumption))))) HC.out).mono ?_; rintro e w2 ⟨rfl, hg2⟩))
    go_ret
    exact ⟨rfl, (by repeat (with_reducible first | assumption | exact Gr.refl _ | apply Gr.alloc | apply Gr.drewN | apply Gr.drew | apply Gr.iter | (refine Gr.setCell ?_ (by simp) _) | (refine Gr.trans ?_ (by assumption))))⟩
  | true =>
    obtain ⟨hok, h2, h3, h4, h5⟩ := canon_ok hc
    have HC := Lib.hid hc; clear hc
    have r0 := rsum_nn h2.nn
    have b0 := bsum_nn h2.nn
    have hsz := Lib.hid (And.intro h3 h4)
    obtain ⟨R, hR⟩ : ∃ R, rsum (l.map toPiece) = R := ⟨_, rfl⟩
    obtain ⟨B, hB⟩ : ∃ B, bsum (l.map toPiece) = B := ⟨_, rfl⟩
    rw [hR] at r0 h4
    rw [hB] at b0 h3
    obtain ⟨P, hP⟩ : ∃ P, modL (R + 5) m = P := ⟨_, rfl⟩
    obtain ⟨Q, hQ⟩ : ∃ Q, modL (R + 5) n = Q := ⟨_, rfl⟩
    have eP : wrap64 ((IntKind.u64.wrap m).tmod (R + 5)) = P := (modL_wrap m (by omega) (by omega)).trans hP
    have eQ : wrap64 ((IntKind.u64.wrap n).tmod (R + 5)) = Q := (modL_wrap n (by omega) (by omega)).trans hQ
    obtain ⟨p1, p2⟩ := modL_bounds (s := R + 5) m (by omega)
    obtain ⟨q1, q2⟩ := modL_bounds (s := R + 5) n (by omega)
    rw [hP] at p1 p2
    rw [hQ] at q1 q2
    obtain ⟨X, hX⟩ : ∃ X, min P Q = X := ⟨_, rfl⟩
    obtain ⟨Y, hY⟩ : ∃ Y, max P Q = Y := ⟨_, rfl⟩
    have hXY : 0 ≤ X ∧ X ≤ Y ∧ Y < R + 5 := by omega
    have HL := back_law h2.nn hXY.1 hXY.2.1 (by rw [hR]; exact hXY.2.2)
    rw [hR, hB] at HL
    have k1 := backAt_code (l.map toPiece) X
    have k2 := backAt_code (l.map toPiece) Y
    obtain ⟨⟨x, c1⟩, e1⟩ : ∃ r, backAt (l.map toPiece) X = r := ⟨_, rfl⟩
    obtain ⟨⟨y, c2⟩, e2⟩ : ∃ r, backAt (l.map toPiece) Y = r := ⟨_, rfl⟩
    rw [e1, e2] at HL
    simp only at HL
    have HR := Lib.hid (And.intro hR hB)
    have H1 := Lib.hid e1
    have H2 := Lib.hid e2
    obtain ⟨x1, x2, x3⟩ := hXY
    clear hR hB hP hQ p2 q2 e1 e2 k1 k2 h5
    by_cases d1 : c1 = 0
    · subst d1
      by_cases d2 : c2 = 0
      · subst d2
        obtain ⟨t1, t2, t3⟩ := HL.2 rfl rfl
        clear HL
        obtain ⟨M, hM⟩ : ∃ M, max 0 (Y - R) = M := ⟨_, rfl⟩
        have hM0 : 0 ≤ M ∧ M ≤ 4 := by omega
        rw [hM] at t3
        go_enter Tryd.func7, Tryd.ntmps7
        go_wp2_with (first
          | (go_at_call 8; refine (fixed14_any _ (hE.gr (by repeat (with_reducible first | assumption | exact Gr.refl _ | apply Gr.alloc | apply Gr.drewN | apply Gr.drew | apply Gr.iter | (refine Gr.setCell ?_ (by simp) _) | (refine Gr.trans ?_ (by assumption)))))).mono ?_; rintro e w1 ⟨rfl, hg1⟩)
          | (go_at_call 9; refine (of14_yes l _ _ (hE.gr (by repeat (with_reducible first | assumption | exact Gr.refl _ | apply Gr.alloc | apply Gr.drewN | apply Gr.drew | apply Gr.iter | (refine Gr.setCell ?_ (by simp) _) | (refine Gr.trans ?_ (by assumption))))) (RdOps.gr hl (by repeat (with_reducible first | assumption | exact Gr.refl _ | apply Gr.alloc | apply Gr.drewN | apply Gr.drew | apply Gr.iter | (refine Gr.setCell ?_ (by simp) _) | (refine Gr.trans ?_ (by assumption))))) hT hN HC.out).mono ?_; rintro e w2 ⟨v2, rfl, hd2, hg2⟩; obtain ⟨g1, sl1, hv1, hbr1⟩ := hd2; subst hv1; have hD : DeltaR w2 (.pointer (some ⟨g1, 0, none⟩)) (l.map toPiece) := ⟨g1, sl1, rfl, hbr1⟩; clear hbr1)
          | (go_at_call 25; refine (result_any _ _ _ (hE.gr (by repeat (with_reducible first | assumption | exact Gr.refl _ | apply Gr.alloc | apply Gr.drewN | apply Gr.drew | apply Gr.iter | (refine Gr.setCell ?_ (by simp) _) | (refine Gr.trans ?_ (by assumption))))) (hD.gr (by repeat (with_reducible first | assumption | exact Gr.refl _ | apply Gr.alloc | apply Gr.drewN | apply Gr.drew | apply Gr.iter | (refine Gr.setCell ?_ (by simp) _) | (refine Gr.trans ?_ (by assumption))))) h2 hsz.out.1 hsz.out.2).mono ?_; rw [HR.out.1]; rintro e w3 ⟨rfl, hg3⟩))
        go_quiet (fail)
        go_wp2_with (first
          | (go_at_call 14; (with_reducible refine (backAt_any _ _ X _ (hE.gr (by repeat (with_reducible first | assumption | exact Gr.refl _ | apply Gr.alloc | apply Gr.drewN | apply Gr.drew | apply Gr.iter | (refine Gr.setCell ?_ (by simp) _) | (refine Gr.trans ?_ (by assumption))))) (hD.gr (by repeat (with_reducible first | assumption | exact Gr.refl _ | apply Gr.alloc | apply Gr.drewN | apply Gr.drew | apply Gr.iter | (refine Gr.setCell ?_ (by simp) _) | (refine Gr.trans ?_ (by assumption))))) h2 hsz.out.1 hsz.out.2).mono ?_); rw [H1.out]; rintro e w4 ⟨rfl, hg4⟩; dsimp only; rw [errOf_zero])
          | (go_at_call 14; (with_reducible refine (backAt_any _ _ Y _ (hE.gr (by repeat (with_reducible first | assumption | exact Gr.refl _ | apply Gr.alloc | apply Gr.drewN | apply Gr.drew | apply Gr.iter | (refine Gr.setCell ?_ (by simp) _) | (refine Gr.trans ?_ (by assumption))))) (hD.gr (by repeat (with_reducible first | assumption | exact Gr.refl _ | apply Gr.alloc | apply Gr.drewN | apply Gr.drew | apply Gr.iter | (refine Gr.setCell ?_ (by simp) _) | (refine Gr.trans ?_ (by assumption))))) h2 hsz.out.1 hsz.out.2).mono ?_); rw [H2.out]; rintro e w5 ⟨rfl, hg5⟩; dsimp only; rw [errOf_zero])
          | (go_at_call 25; refine (result_any _ _ _ (hE.gr (by repeat (with_reducible first | assumption | exact Gr.refl _ | apply Gr.alloc | apply Gr.drewN | apply Gr.drew | apply Gr.iter | (refine Gr.setCell ?_ (by simp) _) | (refine Gr.trans ?_ (by assumption))))) (hD.gr (by repeat (with_reducible first | assumption | exact Gr.refl _ | apply Gr.alloc | apply Gr.drewN | apply Gr.drew | apply Gr.iter | (refine Gr.setCell ?_ (by simp) _) | (refine Gr.trans ?_ (by assumption))))) h2 hsz.out.1 hsz.out.2).mono ?_; rw [HR.out.1]; rintro e w6 ⟨rfl, hg6⟩)
          | (go_at_call 24; refine (base_any _ _ _ (hE.gr (by repeat (with_reducible first | assumption | exact Gr.refl _ | apply Gr.alloc | apply Gr.drewN | apply Gr.drew | apply Gr.iter | (refine Gr.setCell ?_ (by simp) _) | (refine Gr.trans ?_ (by assumption))))) (hD.gr (by repeat (with_reducible first | assumption | exact Gr.refl _ | apply Gr.alloc | apply Gr.drewN | apply Gr.drew | apply Gr.iter | (refine Gr.setCell ?_ (by simp) _) | (refine Gr.trans ?_ (by assumption))))) h2 hsz.out.1 hsz.out.2).mono ?_; rw [HR.out.2]; rintro e w7 ⟨rfl, hg7⟩))
        all_goals go_ret
        all_goals exact ⟨rfl, (by repeat (with_reducible first | assumption | exact Gr.refl _ | apply Gr.alloc | apply Gr.drewN | apply Gr.drew | apply Gr.iter | (refine Gr.setCell ?_ (by simp) _) | (refine Gr.trans ?_ (by assumption))))⟩
      · have t1 := HL.1 (.inr d2)
        clear HL
        go_enter Tryd.func7, Tryd.ntmps7
        go_wp2_with (first
          | (go_at_call 8; refine (fixed14_any _ (hE.gr (by repeat (with_reducible first | assumption | exact Gr.refl _ | apply Gr.alloc | apply Gr.drewN | apply Gr.drew | apply Gr.iter | (refine Gr.setCell ?_ (by simp) _) | (refine Gr.trans ?_ (by assumption)))))).mono ?_; rintro e w1 ⟨rfl, hg1⟩)
          | (go_at_call 9; refine (of14_yes l _ _ (hE.gr (by repeat (with_reducible first | assumption | exact Gr.refl _ | apply Gr.alloc | apply Gr.drewN | apply Gr.drew | apply Gr.iter | (refine Gr.setCell ?_ (by simp) _) | (refine Gr.trans ?_ (by assumption))))) (RdOps.gr hl (by repeat (with_reducible first | assumption | exact Gr.refl _ | apply Gr.alloc | apply Gr.drewN | apply Gr.drew | apply Gr.iter | (refine Gr.setCell ?_ (by simp) _) | (refine Gr.trans ?_ (by assumption))))) hT hN HC.out).mono ?_; rintro e w2 ⟨v2, rfl, hd2, hg2⟩; obtain ⟨g1, sl1, hv1, hbr1⟩ := hd2; subst hv1; have hD : DeltaR w2 (.pointer (some ⟨g1, 0, none⟩)) (l.map toPiece) := ⟨g1, sl1, rfl, hbr1⟩; clear hbr1)
          | (go_at_call 25; refine (result_any _ _ _ (hE.gr (by repeat (with_reducible first | assumption | exact Gr.refl _ | apply Gr.alloc | apply Gr.drewN | apply Gr.drew | apply Gr.iter | (refine Gr.setCell ?_ (by simp) _) | (refine Gr.trans ?_ (by assumption))))) (hD.gr (by repeat (with_reducible first | assumption | exact Gr.refl _ | apply Gr.alloc | apply Gr.drewN | apply Gr.drew | apply Gr.iter | (refine Gr.setCell ?_ (by simp) _) | (refine Gr.trans ?_ (by assumption))))) h2 hsz.out.1 hsz.out.2).mono ?_; rw [HR.out.1]; rintro e w3 ⟨rfl, hg3⟩))
        go_quiet (fail)
        go_wp2_with (first
          | (go_at_call 14; (with_reducible refine (backAt_any _ _ X _ (hE.gr (by repeat (with_reducible first | assumption | exact Gr.refl _ | apply Gr.alloc | apply Gr.drewN | apply Gr.drew | apply Gr.iter | (refine Gr.setCell ?_ (by simp) _) | (refine Gr.trans ?_ (by assumption))))) (hD.gr (by repeat (with_reducible first | assumption | exact Gr.refl _ | apply Gr.alloc | apply Gr.drewN | apply Gr.drew | apply Gr.iter | (refine Gr.setCell ?_ (by simp) _) | (refine Gr.trans ?_ (by assumption))))) h2 hsz.out.1 hsz.out.2).mono ?_); rw [H1.out]; rintro e w4 ⟨rfl, hg4⟩; dsimp only; rw [errOf_zero])
          | (go_at_call 14; (with_reducible refine (backAt_any _ _ Y _ (hE.gr (by repeat (with_reducible first | assumption | exact Gr.refl _ | apply Gr.alloc | apply Gr.drewN | apply Gr.drew | apply Gr.iter | (refine Gr.setCell ?_ (by simp) _) | (refine Gr.trans ?_ (by assumption))))) (hD.gr (by repeat (with_reducible first | assumption | exact Gr.refl _ | apply Gr.alloc | apply Gr.drewN | apply Gr.drew | apply Gr.iter | (refine Gr.setCell ?_ (by simp) _) | (refine Gr.trans ?_ (by assumption))))) h2 hsz.out.1 hsz.out.2).mono ?_); rw [H2.out]; rintro e w5 ⟨rfl, hg5⟩; dsimp only; skip)
          | (go_at_call 25; refine (result_any _ _ _ (hE.gr (by repeat (with_reducible first | assumption | exact Gr.refl _ | apply Gr.alloc | apply Gr.drewN | apply Gr.drew | apply Gr.iter | (refine Gr.setCell ?_ (by simp) _) | (refine Gr.trans ?_ (by assumption))))) (hD.gr (by repeat (with_reducible first | assumption | exact Gr.refl _ | apply Gr.alloc | apply Gr.drewN | apply Gr.drew | apply Gr.iter | (refine Gr.setCell ?_ (by simp) _) | (refine Gr.trans ?_ (by assumption))))) h2 hsz.out.1 hsz.out.2).mono ?_; rw [HR.out.1]; rintro e w6 ⟨rfl, hg6⟩)
          | (go_at_call 24; refine (base_any _ _ _ (hE.gr (by repeat (with_reducible first | assumption | exact Gr.refl _ | apply Gr.alloc | apply Gr.drewN | apply Gr.drew | apply Gr.iter | (refine Gr.setCell ?_ (by simp) _) | (refine Gr.trans ?_ (by assumption))))) (hD.gr (by repeat (with_reducible first | assumption | exact Gr.refl _ | apply Gr.alloc | apply Gr.drewN | apply Gr.drew | apply Gr.iter | (refine Gr.setCell ?_ (by simp) _) | (refine Gr.trans ?_ (by assumption))))) h2 hsz.out.1 hsz.out.2).mono ?_; rw [HR.out.2]; rintro e w7 ⟨rfl, hg7⟩))
        all_goals go_ret
        all_goals exact ⟨rfl, (by repeat (with_reducible first | assumption | exact Gr.refl _ | apply Gr.alloc | apply Gr.drewN | apply Gr.drew | apply Gr.iter | (refine Gr.setCell ?_ (by simp) _) | (refine Gr.trans ?_ (by assumption))))⟩
    · have t1 := HL.1 (.inl d1)
      clear HL
      go_enter Tryd.func7, Tryd.ntmps7
      go_wp2_with (first
        | (go_at_call 8; refine (fixed14_any _ (hE.gr (by repeat (with_reducible first | assumption | exact Gr.refl _ | apply Gr.alloc | apply Gr.drewN | apply Gr.drew | apply Gr.iter | (refine Gr.setCell ?_ (by simp) _) | (refine Gr.trans ?_ (by assumption)))))).mono ?_; rintro e w1 ⟨rfl, hg1⟩)
        | (go_at_call 9; refine (of14_yes l _ _ (hE.gr (by repeat (with_reducible first | assumption | exact Gr.refl _ | apply Gr.alloc | apply Gr.drewN | apply Gr.drew | apply Gr.iter | (refine Gr.setCell ?_ (by simp) _) | (refine Gr.trans ?_ (by assumption))))) (RdOps.gr hl (by repeat (with_reducible first | assumption | exact Gr.refl _ | apply Gr.alloc | apply Gr.drewN | apply Gr.drew | apply Gr.iter | (refine Gr.setCell ?_ (by simp) _) | (refine Gr.trans ?_ (by assumption))))) hT hN HC.out).mono ?_; rintro e w2 ⟨v2, rfl, hd2, hg2⟩; obtain ⟨g1, sl1, hv1, hbr1⟩ := hd2; subst hv1; have hD : DeltaR w2 (.pointer (some ⟨g1, 0, none⟩)) (l.map toPiece) := ⟨g1, sl1, rfl, hbr1⟩; clear hbr1)
        | (go_at_call 25; refine (result_any _ _ _ (hE.gr (by repeat (with_reducible first | assumption | exact Gr.refl _ | apply Gr.alloc | apply Gr.drewN | apply Gr.drew | apply Gr.iter | (refine Gr.setCell ?_ (by simp) _) | (refine Gr.trans ?_ (by assumption))))) (hD.gr (by repeat (with_reducible first | assumption | exact Gr.refl _ | apply Gr.alloc | apply Gr.drewN | apply Gr.drew | apply Gr.iter | (refine Gr.setCell ?_ (by simp) _) | (refine Gr.trans ?_ (by assumption))))) h2 hsz.out.1 hsz.out.2).mono ?_; rw [HR.out.1]; rintro e w3 ⟨rfl, hg3⟩))
      go_quiet (fail)
      go_wp2_with (first
        | (go_at_call 14; (with_reducible refine (backAt_any _ _ X _ (hE.gr (by repeat (with_reducible first | assumption | exact Gr.refl _ | apply Gr.alloc | apply Gr.drewN | apply Gr.drew | apply Gr.iter | (refine Gr.setCell ?_ (by simp) _) | (refine Gr.trans ?_ (by assumption))))) (hD.gr (by repeat (with_reducible first | assumption | exact Gr.refl _ | apply Gr.alloc | apply Gr.drewN | apply Gr.drew | apply Gr.iter | (refine Gr.setCell ?_ (by simp) _) | (refine Gr.trans ?_ (by assumption))))) h2 hsz.out.1 hsz.out.2).mono ?_); rw [H1.out]; rintro e w4 ⟨rfl, hg4⟩; dsimp only; skip)
        | (go_at_call 14; (with_reducible refine (backAt_any _ _ Y _ (hE.gr (by repeat (with_reducible first | assumption | exact Gr.refl _ | apply Gr.alloc | apply Gr.drewN | apply Gr.drew | apply Gr.iter | (refine Gr.setCell ?_ (by simp) _) | (refine Gr.trans ?_ (by assumption))))) (hD.gr (by repeat (with_reducible first | assumption | exact Gr.refl _ | apply Gr.alloc | apply Gr.drewN | apply Gr.drew | apply Gr.iter | (refine Gr.setCell ?_ (by simp) _) | (refine Gr.trans ?_ (by assumption))))) h2 hsz.out.1 hsz.out.2).mono ?_); rw [H2.out]; rintro e w5 ⟨rfl, hg5⟩; dsimp only; skip)
        | (go_at_call 25; refine (result_any _ _ _ (hE.gr (by repeat (with_reducible first | assumption | exact Gr.refl _ | apply Gr.alloc | apply Gr.drewN | apply Gr.drew | apply Gr.iter | (refine Gr.setCell ?_ (by simp) _) | (refine Gr.trans ?_ (by assumption))))) (hD.gr (by repeat (with_reducible first | assumption | exact Gr.refl _ | apply Gr.alloc | apply Gr.drewN | apply Gr.drew | apply Gr.iter | (refine Gr.setCell ?_ (by simp) _) | (refine Gr.trans ?_ (by assumption))))) h2 hsz.out.1 hsz.out.2).mono ?_; rw [HR.out.1]; rintro e w6 ⟨rfl, hg6⟩)
        | (go_at_call 24; refine (base_any _ _ _ (hE.gr (by repeat (with_reducible first | assumption | exact Gr.refl _ | apply Gr.alloc | apply Gr.drewN | apply Gr.drew | apply Gr.iter | (refine Gr.setCell ?_ (by simp) _) | (refine Gr.trans ?_ (by assumption))))) (hD.gr (by repeat (with_reducible first | assumption | exact Gr.refl _ | apply Gr.alloc | apply Gr.drewN | apply Gr.drew | apply Gr.iter | (refine Gr.setCell ?_ (by simp) _) | (refine Gr.trans ?_ (by assumption))))) h2 hsz.out.1 hsz.out.2).mono ?_; rw [HR.out.2]; rintro e w7 ⟨rfl, hg7⟩))
      all_goals go_ret
      all_goals exact ⟨rfl, (by repeat (with_reducible first | assumption | exact Gr.refl _ | apply Gr.alloc | apply Gr.drewN | apply Gr.drew | apply Gr.iter | (refine Gr.setCell ?_ (by simp) _) | (refine Gr.trans ?_ (by assumption))))⟩
end Ve
