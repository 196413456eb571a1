/- Walks of the reference of layer 14: Place, Back, Range. -/
import Derived.Test.YtmdakddgeagnmaaDoorL3
set_option linter.all false
namespace Ve
open Go Go.RowKit Go.Proofs

set_option maxHeartbeats 1000000 in
theorem rplace_any (l : List Op) (v : Value) (place : Int) (behind : Bool) (w : World) (hl : RdOps w v l) (hok : ∀ o ∈ l, checkOp o = 0) (hB : sumB l ≤ 1099511627776) (hR : sumR l ≤ 1099511627776) :
    Calls Tryd.prog 12 #[v, .int .i64 place, .bool behind] w fun e w' => e = .returned (.tuple #[.int .i64 (placeP (l.map toPiece) place behind).1, .int .i64 (placeP (l.map toPiece) place behind).2]) ∧ Gr w w' := by
  obtain ⟨a, n, cap, rfl, -, -, -, -⟩ := hl.sl
  by_cases h : 0 ≤ place ∧ place ≤ 1099511627776
  · obtain ⟨X, hX⟩ : ∃ X, carR place behind 0 0 l = X := ⟨_, rfl⟩
    have hX2 : carP place behind 0 place (l.map toPiece) = X := by rw [← hX]; exact (carR_P hok (by omega)).symm
    have HX := Lib.hid hX; clear hX
    obtain ⟨h1, h2⟩ := h
    by_cases h3 : 1099511627776 < X
    · have hP : placeP (l.map toPiece) place behind = (0, 11) := by unfold placeP; rw [if_pos ⟨h1, h2⟩, hX2, if_pos h3]
      rw [hP]
      clear hP hX2
      go_enter Tryd.func12, Tryd.ntmps12
      go_wp2_with (go_at_call 35; refine (rcarried_any l _ place behind _ (RdOps.gr hl (by repeat (with_reducible first | assumption | exact Gr.refl _ | apply Gr.alloc | apply Gr.drewN | apply Gr.drew | apply Gr.iter | (refine Gr.setCell ?_ (by simp) _) | (refine Gr.trans ?_ (by assumption))))) hok h1 h2 hB hR).mono ?_; rw [HX.out]; rintro e w1 ⟨rfl, hg1⟩)
      go_ret2
      exact ⟨rfl, (by repeat (with_reducible first | assumption | exact Gr.refl _ | apply Gr.alloc | apply Gr.drewN | apply Gr.drew | apply Gr.iter | (refine Gr.setCell ?_ (by simp) _) | (refine Gr.trans ?_ (by assumption))))⟩
    · have hP : placeP (l.map toPiece) place behind = (X, 0) := by unfold placeP; rw [if_pos ⟨h1, h2⟩, hX2, if_neg h3]
      rw [hP]
      clear hP hX2
      go_enter Tryd.func12, Tryd.ntmps12
      go_wp2_with (go_at_call 35; refine (rcarried_any l _ place behind _ (RdOps.gr hl (by repeat (with_reducible first | assumption | exact Gr.refl _ | apply Gr.alloc | apply Gr.drewN | apply Gr.drew | apply Gr.iter | (refine Gr.setCell ?_ (by simp) _) | (refine Gr.trans ?_ (by assumption))))) hok h1 h2 hB hR).mono ?_; rw [HX.out]; rintro e w1 ⟨rfl, hg1⟩)
      go_ret2
      exact ⟨rfl, (by repeat (with_reducible first | assumption | exact Gr.refl _ | apply Gr.alloc | apply Gr.drewN | apply Gr.drew | apply Gr.iter | (refine Gr.setCell ?_ (by simp) _) | (refine Gr.trans ?_ (by assumption))))⟩
  · have hP : placeP (l.map toPiece) place behind = (0, 12) := by unfold placeP; rw [if_neg h]
    rw [hP]
    clear hP
    by_cases h1 : place < 0
    · clear h
      go_enter Tryd.func12, Tryd.ntmps12
      go_wp2
      go_ret2
      exact ⟨rfl, (by repeat (with_reducible first | assumption | exact Gr.refl _ | apply Gr.alloc | apply Gr.drewN | apply Gr.drew | apply Gr.iter | (refine Gr.setCell ?_ (by simp) _) | (refine Gr.trans ?_ (by assumption))))⟩
    · have h2 : 1099511627776 < place := by omega
      clear h
      go_enter Tryd.func12, Tryd.ntmps12
      go_wp2
      go_ret2
      exact ⟨rfl, (by repeat (with_reducible first | assumption | exact Gr.refl _ | apply Gr.alloc | apply Gr.drewN | apply Gr.drew | apply Gr.iter | (refine Gr.setCell ?_ (by simp) _) | (refine Gr.trans ?_ (by assumption))))⟩
set_option maxHeartbeats 8000000 in
theorem rback_any (l : List Op) (v : Value) (place : Int) (w : World) (hl : RdOps w v l) (hok : ∀ o ∈ l, checkOp o = 0) (hB : sumB l ≤ 1099511627776) (hR : sumR l ≤ 1099511627776) :
    Calls Tryd.prog 15 #[v, .int .i64 place] w fun e w' => e = .returned (.tuple #[.int .i64 (backAt (l.map toPiece) place).1, .int .i64 (backAt (l.map toPiece) place).2]) ∧ Gr w w' := by
  obtain ⟨a, n, cap, rfl, hcap, hm, hb, hn⟩ := hl.sl
  by_cases h : 0 ≤ place ∧ place ≤ 1099511627776
  · have hP : backAt (l.map toPiece) place = backR place 0 0 l := by
      rw [backR_P hok (sumB_nn hok) (by omega)]
      unfold backAt finL
      rw [if_pos h]
    rw [hP]
    clear hP
    obtain ⟨hp0, hp1⟩ := h
    obtain ⟨Z, hZ⟩ : ∃ Z, backR place 0 0 l = Z := ⟨_, rfl⟩
    rw [hZ]
    have HZ := Lib.hid hZ; clear hZ
    go_enter Tryd.func15, Tryd.ntmps15
    go_wp2
    go_loopw [6, 7, 8] (fun x y i wr => ∃ (k : Nat) (q p : Int), k ≤ n ∧ i = .int .i64 k ∧ x = .int .i64 q ∧ y = .int .i64 p ∧ 0 ≤ p ∧ p + sumB (l.drop k) ≤ 1099511627776 ∧ 0 ≤ q ∧ q + sumR (l.drop k) ≤ 1099511627776 ∧ Gr w wr ∧ backR place q p (l.drop k) = Z) (fun _ _ i _ => n - (intOf i).toNat)
    case atStart => exact ⟨0, 0, 0, Nat.zero_le _, rfl, rfl, rfl, by omega, by simpa using hB, by omega, by simpa using hR, Gr.refl _, HZ.out⟩
    case round =>
      obtain ⟨k, q, p, hk, rfl, rfl, rfl, hp, hpb, hq0, hqr, hg, hc⟩ := hrel
      have Hc := Lib.hid hc; clear hc
      by_cases hlt : k < n
      · obtain ⟨blk, off, xk, xt, xa, xb, xv, xc, ats, sl, hx, rfl, hr, c0, c1, c2, c3, c4, c5, c6, s1, s2⟩ := (RdOps.gr hl hg).at_ k hlt
        have hck := hok _ (List.mem_of_getElem? hx)
        have hkind := ok_kind hck
        simp only at hkind
        have hbn := sumB_nn (ops_drop hok (k + 1))
        have hrn := sumR_nn (ops_drop hok (k + 1))
        rw [drop_cons hx] at hpb hqr
        simp only [sumB, sumR] at hpb hqr
        obtain ⟨N0, N1⟩ := rlen_bound hck s1
        have HQ := (congrArg (backR place q p) (drop_cons hx)).symm.trans Hc.out
        have Hx := Lib.hid hx; clear hx hck
        have hlt' : (k : Int) < n := by omega
        obtain ⟨N, hN⟩ : ∃ N, rlen ⟨xk, xt, ⟨xa, xb, xv⟩, xc, ats⟩ = N := ⟨_, rfl⟩
        simp only [backR, baseO, resO] at HQ hpb hqr
        rw [hN] at N0 N1 hpb hqr HQ
        have HN := Lib.hid hN; clear hN
        obtain ⟨sa, sc, hsl, -⟩ := RdList.slice hr
        subst hsl
        rcases hkind with rfl | rfl | rfl | rfl
        · rw [if_neg (by omega), if_neg (by omega)] at HQ
          simp at hpb hqr
          by_cases h1 : place < q + N
          · rw [if_pos h1] at HQ
            have HC := Lib.hid HQ; clear HQ
            go_wp2_with (go_at_call 29; refine (rlen_any _ _ _ _ _ _ _ ats _ (RdAttrs.gr (w := wr) hr (by repeat (with_reducible first | assumption | exact Gr.refl _ | apply Gr.alloc | apply Gr.drewN | apply Gr.drew | apply Gr.iter | (refine Gr.setCell ?_ (by simp) _) | (refine Gr.trans ?_ (by assumption))))) s1).mono ?_; rw [HN.out]; rintro e w2 ⟨rfl, hg2⟩; have d0 := hg2.cell c0; have z0 := cell_lt d0)
            go_ret2
            exact ⟨ret_ii (by rw [← HC.out]) (by rw [← HC.out]), (by repeat (with_reducible first | assumption | exact Gr.refl _ | apply Gr.alloc | apply Gr.drewN | apply Gr.drew | apply Gr.iter | (refine Gr.setCell ?_ (by simp) _) | (refine Gr.trans ?_ (by assumption))))⟩
          · rw [if_neg h1] at HQ
            have HC := Lib.hid HQ; clear HQ
            go_wp2_with (go_at_call 29; refine (rlen_any _ _ _ _ _ _ _ ats _ (RdAttrs.gr (w := wr) hr (by repeat (with_reducible first | assumption | exact Gr.refl _ | apply Gr.alloc | apply Gr.drewN | apply Gr.drew | apply Gr.iter | (refine Gr.setCell ?_ (by simp) _) | (refine Gr.trans ?_ (by assumption))))) s1).mono ?_; rw [HN.out]; rintro e w2 ⟨rfl, hg2⟩; have d0 := hg2.cell c0; have z0 := cell_lt d0)
            go_roundw
            case rel => exact ⟨k + 1, q + N, p, by omega, by go_num, rfl, rfl, by omega, by omega, by omega, by omega, (by repeat (with_reducible first | assumption | exact Gr.refl _ | apply Gr.alloc | apply Gr.drewN | apply Gr.drew | apply Gr.iter | (refine Gr.setCell ?_ (by simp) _) | (refine Gr.trans ?_ (by assumption)))), HC.out⟩
            case measure => simp [intOf]; omega
        · rw [if_neg (by omega), if_neg (by omega)] at HQ
          simp at hpb hqr
          by_cases h1 : place < q + N
          · rw [if_pos h1] at HQ
            have HC := Lib.hid HQ; clear HQ
            go_wp2_with (go_at_call 29; refine (rlen_any _ _ _ _ _ _ _ ats _ (RdAttrs.gr (w := wr) hr (by repeat (with_reducible first | assumption | exact Gr.refl _ | apply Gr.alloc | apply Gr.drewN | apply Gr.drew | apply Gr.iter | (refine Gr.setCell ?_ (by simp) _) | (refine Gr.trans ?_ (by assumption))))) s1).mono ?_; rw [HN.out]; rintro e w2 ⟨rfl, hg2⟩; have d0 := hg2.cell c0; have z0 := cell_lt d0)
            go_ret2
            exact ⟨ret_ii (by rw [← HC.out]) (by rw [← HC.out]), (by repeat (with_reducible first | assumption | exact Gr.refl _ | apply Gr.alloc | apply Gr.drewN | apply Gr.drew | apply Gr.iter | (refine Gr.setCell ?_ (by simp) _) | (refine Gr.trans ?_ (by assumption))))⟩
          · rw [if_neg h1] at HQ
            have HC := Lib.hid HQ; clear HQ
            go_wp2_with (go_at_call 29; refine (rlen_any _ _ _ _ _ _ _ ats _ (RdAttrs.gr (w := wr) hr (by repeat (with_reducible first | assumption | exact Gr.refl _ | apply Gr.alloc | apply Gr.drewN | apply Gr.drew | apply Gr.iter | (refine Gr.setCell ?_ (by simp) _) | (refine Gr.trans ?_ (by assumption))))) s1).mono ?_; rw [HN.out]; rintro e w2 ⟨rfl, hg2⟩; have d0 := hg2.cell c0; have z0 := cell_lt d0)
            go_roundw
            case rel => exact ⟨k + 1, q + N, p, by omega, by go_num, rfl, rfl, by omega, by omega, by omega, by omega, (by repeat (with_reducible first | assumption | exact Gr.refl _ | apply Gr.alloc | apply Gr.drewN | apply Gr.drew | apply Gr.iter | (refine Gr.setCell ?_ (by simp) _) | (refine Gr.trans ?_ (by assumption)))), HC.out⟩
            case measure => simp [intOf]; omega
        · rw [if_pos rfl] at HQ
          simp at hpb hqr
          by_cases h1 : place < q + N
          · rw [if_pos h1] at HQ
            have HC := Lib.hid HQ; clear HQ
            go_wp2_with (go_at_call 29; refine (rlen_any _ _ _ _ _ _ _ ats _ (RdAttrs.gr (w := wr) hr (by repeat (with_reducible first | assumption | exact Gr.refl _ | apply Gr.alloc | apply Gr.drewN | apply Gr.drew | apply Gr.iter | (refine Gr.setCell ?_ (by simp) _) | (refine Gr.trans ?_ (by assumption))))) s1).mono ?_; rw [HN.out]; rintro e w2 ⟨rfl, hg2⟩; have d0 := hg2.cell c0; have z0 := cell_lt d0)
            go_ret2
            exact ⟨ret_ii (by rw [← HC.out]) (by rw [← HC.out]), (by repeat (with_reducible first | assumption | exact Gr.refl _ | apply Gr.alloc | apply Gr.drewN | apply Gr.drew | apply Gr.iter | (refine Gr.setCell ?_ (by simp) _) | (refine Gr.trans ?_ (by assumption))))⟩
          · rw [if_neg h1] at HQ
            have HC := Lib.hid HQ; clear HQ
            go_wp2_with (go_at_call 29; refine (rlen_any _ _ _ _ _ _ _ ats _ (RdAttrs.gr (w := wr) hr (by repeat (with_reducible first | assumption | exact Gr.refl _ | apply Gr.alloc | apply Gr.drewN | apply Gr.drew | apply Gr.iter | (refine Gr.setCell ?_ (by simp) _) | (refine Gr.trans ?_ (by assumption))))) s1).mono ?_; rw [HN.out]; rintro e w2 ⟨rfl, hg2⟩; have d0 := hg2.cell c0; have z0 := cell_lt d0)
            go_roundw
            case rel => exact ⟨k + 1, q + N, p + N, by omega, by go_num, rfl, rfl, by omega, by omega, by omega, by omega, (by repeat (with_reducible first | assumption | exact Gr.refl _ | apply Gr.alloc | apply Gr.drewN | apply Gr.drew | apply Gr.iter | (refine Gr.setCell ?_ (by simp) _) | (refine Gr.trans ?_ (by assumption)))), HC.out⟩
            case measure => simp [intOf]; omega
        · rw [if_neg (by omega), if_pos rfl] at HQ
          simp at hpb hqr
          have HC := Lib.hid HQ; clear HQ
          go_wp2_with (go_at_call 29; refine (rlen_any _ _ _ _ _ _ _ ats _ (RdAttrs.gr (w := wr) hr (by repeat (with_reducible first | assumption | exact Gr.refl _ | apply Gr.alloc | apply Gr.drewN | apply Gr.drew | apply Gr.iter | (refine Gr.setCell ?_ (by simp) _) | (refine Gr.trans ?_ (by assumption))))) s1).mono ?_; rw [HN.out]; rintro e w2 ⟨rfl, hg2⟩; have d0 := hg2.cell c0; have z0 := cell_lt d0)
          go_roundw
          case rel => exact ⟨k + 1, q, p + N, by omega, by go_num, rfl, rfl, by omega, by omega, by omega, by omega, (by repeat (with_reducible first | assumption | exact Gr.refl _ | apply Gr.alloc | apply Gr.drewN | apply Gr.drew | apply Gr.iter | (refine Gr.setCell ?_ (by simp) _) | (refine Gr.trans ?_ (by assumption)))), HC.out⟩
          case measure => simp [intOf]; omega
      · obtain rfl : k = n := by omega
        have hl0 : l.drop k = [] := List.drop_eq_nil_of_le (by rw [hn.out]; exact Nat.le_refl _)
        have hf : finL (p + place - q) = Z := by rw [← Hc.out, hl0]; rfl
        rw [hl0] at hpb hqr
        simp only [sumB, sumR] at hpb hqr
        clear hl0
        by_cases h9 : 1099511627776 < p + place - q
        · have hf2 : Z = (0, 11) := by rw [← hf]; exact if_pos h9
          have HF := Lib.hid hf2; clear hf2 hf
          go_wp2
          go_ret2
          exact ⟨ret_ii (by rw [HF.out]) (by rw [HF.out]), (by repeat (with_reducible first | assumption | exact Gr.refl _ | apply Gr.alloc | apply Gr.drewN | apply Gr.drew | apply Gr.iter | (refine Gr.setCell ?_ (by simp) _) | (refine Gr.trans ?_ (by assumption))))⟩
        · have hf2 : Z = (p + place - q, 0) := by rw [← hf]; exact if_neg h9
          have HF := Lib.hid hf2; clear hf2 hf
          go_wp2
          go_ret2
          exact ⟨ret_ii (by rw [HF.out]) (by rw [HF.out]), (by repeat (with_reducible first | assumption | exact Gr.refl _ | apply Gr.alloc | apply Gr.drewN | apply Gr.drew | apply Gr.iter | (refine Gr.setCell ?_ (by simp) _) | (refine Gr.trans ?_ (by assumption))))⟩
  · have hP : backAt (l.map toPiece) place = (0, 12) := by unfold backAt; rw [if_neg h]
    rw [hP]
    clear hP
    by_cases h1 : place < 0
    · clear h
      go_enter Tryd.func15, Tryd.ntmps15
      go_wp2
      go_ret2
      exact ⟨rfl, (by repeat (with_reducible first | assumption | exact Gr.refl _ | apply Gr.alloc | apply Gr.drewN | apply Gr.drew | apply Gr.iter | (refine Gr.setCell ?_ (by simp) _) | (refine Gr.trans ?_ (by assumption))))⟩
    · have h2 : 1099511627776 < place := by omega
      clear h
      go_enter Tryd.func15, Tryd.ntmps15
      go_wp2
      go_ret2
      exact ⟨rfl, (by repeat (with_reducible first | assumption | exact Gr.refl _ | apply Gr.alloc | apply Gr.drewN | apply Gr.drew | apply Gr.iter | (refine Gr.setCell ?_ (by simp) _) | (refine Gr.trans ?_ (by assumption))))⟩
set_option maxHeartbeats 2000000 in
theorem rrange_any (l : List Op) (v : Value) (a b : Int) (w : World) (hl : RdOps w v l) (hok : ∀ o ∈ l, checkOp o = 0) (hB : sumB l ≤ 1099511627776) (hR : sumR l ≤ 1099511627776) :
    Calls Tryd.prog 17 #[v, .int .i64 a, .int .i64 b] w fun e w' => e = .returned (.tuple #[.int .i64 (rangeP (l.map toPiece) a b).1, .int .i64 (rangeP (l.map toPiece) a b).2.1, .int .i64 (rangeP (l.map toPiece) a b).2.2]) ∧ Gr w w' := by
  obtain ⟨sa, n, cap, rfl, -, -, -, -⟩ := hl.sl
  by_cases h : a < 0 ∨ b < a ∨ 1099511627776 < b
  · have hP : rangeP (l.map toPiece) a b = (0, 0, 12) := if_pos h
    rw [hP]
    clear hP
    by_cases h1 : a < 0
    · clear h
      go_enter Tryd.func17, Tryd.ntmps17
      go_wp2
      go_ret3
      exact ⟨rfl, (by repeat (with_reducible first | assumption | exact Gr.refl _ | apply Gr.alloc | apply Gr.drewN | apply Gr.drew | apply Gr.iter | (refine Gr.setCell ?_ (by simp) _) | (refine Gr.trans ?_ (by assumption))))⟩
    · by_cases h2 : b < a
      · clear h
        go_enter Tryd.func17, Tryd.ntmps17
        go_wp2
        go_ret3
        exact ⟨rfl, (by repeat (with_reducible first | assumption | exact Gr.refl _ | apply Gr.alloc | apply Gr.drewN | apply Gr.drew | apply Gr.iter | (refine Gr.setCell ?_ (by simp) _) | (refine Gr.trans ?_ (by assumption))))⟩
      · have h3 : 1099511627776 < b := by omega
        clear h
        go_enter Tryd.func17, Tryd.ntmps17
        go_wp2
        go_ret3
        exact ⟨rfl, (by repeat (with_reducible first | assumption | exact Gr.refl _ | apply Gr.alloc | apply Gr.drewN | apply Gr.drew | apply Gr.iter | (refine Gr.setCell ?_ (by simp) _) | (refine Gr.trans ?_ (by assumption))))⟩
  · have h1 : 0 ≤ a := by omega
    have h2 : a ≤ b := by omega
    have h3 : b ≤ 1099511627776 := by omega
    obtain ⟨X, hX⟩ : ∃ X, carR a true 0 0 l = X := ⟨_, rfl⟩
    obtain ⟨Y, hY⟩ : ∃ Y, carR b false 0 0 l = Y := ⟨_, rfl⟩
    have hX2 : carP a true 0 a (l.map toPiece) = X := by rw [← hX]; exact (carR_P hok (by omega)).symm
    have hY2 : carP b false 0 b (l.map toPiece) = Y := by rw [← hY]; exact (carR_P hok (by omega)).symm
    have HX := Lib.hid (And.intro hX hY)
    obtain ⟨M, hM⟩ : ∃ M, min X Y = M := ⟨_, rfl⟩
    have hP : rangeP (l.map toPiece) a b = if 1099511627776 < M ∨ 1099511627776 < Y then (0, 0, 11) else (M, Y, 0) := by
      unfold rangeP; rw [if_neg h, hX2, hY2, hM]
    clear hX hY hX2 hY2 h
    have HM := Lib.hid hM; clear hM
    by_cases h4 : 1099511627776 < Y
    · rw [if_pos (.inr h4)] at hP
      rw [hP]
      clear hP
      have k1 : a ≤ 1099511627776 := by omega
      have k2 : 0 ≤ b := by omega
      go_enter Tryd.func17, Tryd.ntmps17
      go_wp2_with (first
        | (go_at_call 35; (with_reducible refine (rcarried_any l _ a true _ (RdOps.gr hl (by repeat (with_reducible first | assumption | exact Gr.refl _ | apply Gr.alloc | apply Gr.drewN | apply Gr.drew | apply Gr.iter | (refine Gr.setCell ?_ (by simp) _) | (refine Gr.trans ?_ (by assumption))))) hok h1 k1 hB hR).mono ?_); rw [HX.out.1]; rintro e w1 ⟨rfl, hg1⟩)
        | (go_at_call 35; (with_reducible refine (rcarried_any l _ b false _ (RdOps.gr hl (by repeat (with_reducible first | assumption | exact Gr.refl _ | apply Gr.alloc | apply Gr.drewN | apply Gr.drew | apply Gr.iter | (refine Gr.setCell ?_ (by simp) _) | (refine Gr.trans ?_ (by assumption))))) hok k2 h3 hB hR).mono ?_); rw [HX.out.2]; rintro e w2 ⟨rfl, hg2⟩))
      all_goals go_ret3
      all_goals exact ⟨rfl, (by repeat (with_reducible first | assumption | exact Gr.refl _ | apply Gr.alloc | apply Gr.drewN | apply Gr.drew | apply Gr.iter | (refine Gr.setCell ?_ (by simp) _) | (refine Gr.trans ?_ (by assumption))))⟩
    · have h5 : ¬ 1099511627776 < M := by have := HM.out; omega
      rw [if_neg (by omega)] at hP
      rw [hP]
      clear hP
      have k1 : a ≤ 1099511627776 := by omega
      have k2 : 0 ≤ b := by omega
      go_enter Tryd.func17, Tryd.ntmps17
      go_wp2_with (first
        | (go_at_call 35; (with_reducible refine (rcarried_any l _ a true _ (RdOps.gr hl (by repeat (with_reducible first | assumption | exact Gr.refl _ | apply Gr.alloc | apply Gr.drewN | apply Gr.drew | apply Gr.iter | (refine Gr.setCell ?_ (by simp) _) | (refine Gr.trans ?_ (by assumption))))) hok h1 k1 hB hR).mono ?_); rw [HX.out.1]; rintro e w1 ⟨rfl, hg1⟩)
        | (go_at_call 35; (with_reducible refine (rcarried_any l _ b false _ (RdOps.gr hl (by repeat (with_reducible first | assumption | exact Gr.refl _ | apply Gr.alloc | apply Gr.drewN | apply Gr.drew | apply Gr.iter | (refine Gr.setCell ?_ (by simp) _) | (refine Gr.trans ?_ (by assumption))))) hok k2 h3 hB hR).mono ?_); rw [HX.out.2]; rintro e w2 ⟨rfl, hg2⟩))
      go_ret3
      exact ⟨ret_iii (by rw [← HM.out]) rfl rfl, (by repeat (with_reducible first | assumption | exact Gr.refl _ | apply Gr.alloc | apply Gr.drewN | apply Gr.drew | apply Gr.iter | (refine Gr.setCell ?_ (by simp) _) | (refine Gr.trans ?_ (by assumption))))⟩
end Ve
