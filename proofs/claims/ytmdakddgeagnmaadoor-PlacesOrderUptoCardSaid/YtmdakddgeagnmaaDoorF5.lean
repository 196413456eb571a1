/- The law PlacesOrder. -/
import Derived.Test.YtmdakddgeagnmaaDoorF4
set_option linter.all false
namespace Ve
open Go Go.RowKit Go.Proofs

/-- What the law gathers: what a list of operations inserts at p. -/
def insO (p g s : Int) : List Op → Int
  | [] => s
  | o :: r => if o.kind = 1 ∨ o.kind = 2 then insO p g (if g = p then s + rlen o else s) r else insO p (g + o.count) s r
theorem insO_P {p : Int} {l : List Op} : ∀ {g s : Int}, (∀ o ∈ l, checkOp o = 0) → insO p g s l = s + insAt p g (l.map toPiece) := by
  induction l with
  | nil => intro g s _; simp [insO, insAt]
  | cons o l ih =>
    intro g s hok
    have ho := hok o (by simp)
    have hr := fun {g s} => @ih g s (fun x hx => hok x (by simp [hx]))
    simp only [insO, List.map_cons]
    rcases ok_kind ho with k | k | k | k
    · rw [piece1 ho k, if_pos (.inl k)]; simp only [insAt]; rw [hr]; split <;> omega
    · rw [(piece2 ho k).1, if_pos (.inr k), (piece2 ho k).2]; simp only [insAt]; rw [hr]; split <;> omega
    · rw [piece3 ho k, if_neg (by omega), show rlen o = o.count from rlen3 _ _ _ _ (.inl k)]; simp only [insAt]; exact hr
    · rw [piece4 ho k, if_neg (by omega), show rlen o = o.count from rlen3 _ _ _ _ (.inr k)]; simp only [insAt]; exact hr
theorem placeP_two {ps : List Piece} {Z : Int} (b : Bool) (h : 0 ≤ Z) (h' : Z ≤ 1099511627776) : (1099511627776 < carP Z b 0 Z ps ∧ placeP ps Z b = (0, 11)) ∨ (carP Z b 0 Z ps ≤ 1099511627776 ∧ placeP ps Z b = (carP Z b 0 Z ps, 0)) := by
  unfold placeP
  rw [if_pos (show 0 ≤ Z ∧ Z ≤ 1099511627776 from ⟨h, h'⟩)]
  by_cases d : 1099511627776 < carP Z b 0 Z ps
  · left; rw [if_pos d]; exact ⟨d, rfl⟩
  · right; rw [if_neg d]; exact ⟨by omega, rfl⟩
theorem atL_base {l : List Op} (n : Int) (hc : canonL l = true) : atL l n ≤ sumB l + 4 := by
  obtain ⟨h1, -, -, -, -⟩ := canon_ok hc
  have h2 := sumB_nn h1
  have h4 := Int.emod_lt_of_pos (IntKind.u64.wrap n) (b := min (sumB l + 5) 1099511627777) (by omega)
  unfold atL
  omega
theorem order_law {ps : List Piece} {P Q : Int} (h : ∀ x ∈ ps, 0 ≤ x.len) (h0 : 0 ≤ P) (h1 : P ≤ Q) :
    carP P true 0 P ps - carP P false 0 P ps = insAt P 0 ps ∧ carP P false 0 P ps ≤ carP P true 0 P ps ∧ carP Q false 0 Q ps ≤ carP Q true 0 Q ps ∧ (P < Q → carP P true 0 P ps ≤ carP Q false 0 Q ps) ∧
      carP P true 0 P ps ≤ P + isum ps ∧ carP Q true 0 Q ps ≤ Q + isum ps := by
  have g1 := car_gap (p := P) (ps := ps) (g := 0) (t := P)
  have g2 := car_gap (p := Q) (ps := ps) (g := 0) (t := Q)
  have n1 := insAt_nn (p := P) (g := 0) h
  have n2 := insAt_nn (p := Q) (g := 0) h
  have l1 := car_le (p := P) (b := true) (g := 0) (t := P) h
  have l2 := car_le (p := Q) (b := true) (g := 0) (t := Q) h
  refine ⟨by omega, by omega, by omega, fun hlt => car_order hlt h (by omega), l1, l2⟩
theorem rangeP_in {ps : List Piece} {P Q : Int} (h0 : 0 ≤ P) (h1 : P ≤ Q) (h2 : Q ≤ 1099511627776) (h3 : carP Q false 0 Q ps ≤ 1099511627776) : rangeP ps P Q = (min (carP P true 0 P ps) (carP Q false 0 Q ps), carP Q false 0 Q ps, 0) := by
  unfold rangeP
  rw [if_neg (show ¬ (P < 0 ∨ Q < P ∨ 1099511627776 < Q) by omega), if_neg (show ¬ (1099511627776 < min (carP P true 0 P ps) (carP Q false 0 Q ps) ∨ 1099511627776 < carP Q false 0 Q ps) by omega)]
set_option maxRecDepth 20000 in
set_option maxHeartbeats 16000000 in
theorem placesOrder_any {ea : Nat → Addr} (l : List Op) (v : Value) (m0 n0 : Int) (w : World) (hE : Env ea w) (hl : RdOps w v l) (hT : opsum l ≤ 1099511627776) (hN : 2 * l.length + 2 ≤ 1099511627776) :
    Calls Tryd.prog 6 #[v, .int .i64 m0, .int .i64 n0] w fun e w' => e = .returned (.bool true) ∧ Gr w w' := by
  obtain ⟨a, n, cap, rfl, hcap, hm, hnb, hn⟩ := hl.sl
  cases hc : canonL l with
  | false =>
    have HC := Lib.hid hc; clear hc
    go_enter Tryd.func6, Tryd.ntmps6
    go_wp2_with (first
      | (go_at_call 8; refine (fixed14_any _ (hE.gr (by repeat (with_reducible first | assumption | exact Gr.refl _ | apply Gr.alloc | apply Gr.drewN | apply Gr.drew | apply Gr.iter | (refine Gr.setCell ?_ (by simp) _) | (refine Gr.trans ?_ (by assumption)))))).mono ?_; rintro e w1 ⟨rfl, hg1⟩)
      | (go_at_call 9; refine (of14_no l _ _ (hE.gr (by repeat (with_reducible first | assumption | exact Gr.refl _ | apply Gr.alloc | apply Gr.drewN | apply Gr.drew | apply Gr.iter | (refine Gr.setCell ?_ (by simp) _) | (refine Gr.trans ?_ (by assumption))))) (RdOps.gr hl (by repeat (with_reducible first | assumption | exact Gr.refl _ | apply Gr.alloc | apply Gr.drewN | apply Gr.drew | apply Gr.iter | (refine Gr.setCell ?_ (by simp) _) | (refine Gr.trans ?_ (by assumption))))) HC.out).mono ?_; rintro e w2 ⟨rfl, hg2⟩))
    go_ret
    exact ⟨rfl, (by repeat (with_reducible first | assumption | exact Gr.refl _ | apply Gr.alloc | apply Gr.drewN | apply Gr.drew | apply Gr.iter | (refine Gr.setCell ?_ (by simp) _) | (refine Gr.trans ?_ (by assumption))))⟩
  | true =>
    obtain ⟨hok, h2, h3, h4, h5⟩ := canon_ok hc
    obtain ⟨s1, s2, -⟩ := canon_sums hc
    have HC := Lib.hid hc; clear hc
    have hI := insO_P (p := 0) (l := l) (g := 0) (s := 0) hok
    have i0 := isum_nn h2.nn
    have b0 := bsum_nn h2.nn
    have hsz := Lib.hid (And.intro h3 (And.intro h4 (And.intro s1 s2)))
    have bm := bsum_map hok
    obtain ⟨-, u2, u3, u4, u5⟩ := sums_nn h2.nn
    have j1 : isum (l.map toPiece) ≤ 1099511627776 := by omega
    have b1 := h3
    clear u2 u3 u4 u5
    obtain ⟨P0, hP0⟩ : ∃ P0, atL l m0 = P0 := ⟨_, rfl⟩
    obtain ⟨Q0, hQ0⟩ : ∃ Q0, atL l n0 = Q0 := ⟨_, rfl⟩
    obtain ⟨p1, p2⟩ := atL_bounds m0 HC.out
    obtain ⟨q1, q2⟩ := atL_bounds n0 HC.out
    have p3 := atL_base m0 HC.out
    have q3 := atL_base n0 HC.out
    rw [hP0] at p1 p2 p3
    rw [hQ0] at q1 q2 q3
    have HP0 := Lib.hid hP0; clear hP0
    have HQ0 := Lib.hid hQ0; clear hQ0
    obtain ⟨P, hP⟩ : ∃ P, min P0 Q0 = P := ⟨_, rfl⟩
    obtain ⟨Q, hQ⟩ : ∃ Q, max P0 Q0 = Q := ⟨_, rfl⟩
    have x0 : 0 ≤ P := by omega
    have x1 : P ≤ Q := by omega
    have x2 : Q ≤ 1099511627776 := by omega
    have x3 : Q ≤ bsum (l.map toPiece) + 4 := by omega
    obtain ⟨o1, o2, o3, o4, o5, o6⟩ := order_law h2.nn x0 x1
    have hIP := insO_P (p := P) (l := l) (g := 0) (s := 0) hok
    rw [Int.zero_add] at hIP
    rw [← hIP] at o1
    have T1 := placeP_two (ps := l.map toPiece) false x0 (show P ≤ 1099511627776 by omega)
    have T2 := placeP_two (ps := l.map toPiece) true x0 (show P ≤ 1099511627776 by omega)
    have T3 := placeP_two (ps := l.map toPiece) false (show 0 ≤ Q by omega) x2
    have T4 := placeP_two (ps := l.map toPiece) true (show 0 ≤ Q by omega) x2
    have TR := rangeP_in (ps := l.map toPiece) x0 x1 x2
    obtain ⟨X, hX⟩ : ∃ X, carP P false 0 P (l.map toPiece) = X := ⟨_, rfl⟩
    obtain ⟨Y, hY⟩ : ∃ Y, carP P true 0 P (l.map toPiece) = Y := ⟨_, rfl⟩
    obtain ⟨V, hV⟩ : ∃ V, carP Q false 0 Q (l.map toPiece) = V := ⟨_, rfl⟩
    obtain ⟨Z, hZ⟩ : ∃ Z, carP Q true 0 Q (l.map toPiece) = Z := ⟨_, rfl⟩
    obtain ⟨I, hI2⟩ : ∃ I, insO P 0 0 l = I := ⟨_, rfl⟩
    obtain ⟨J, hJ⟩ : ∃ J, isum (l.map toPiece) = J := ⟨_, rfl⟩
    obtain ⟨B, hB⟩ : ∃ B, bsum (l.map toPiece) = B := ⟨_, rfl⟩
    rw [hX] at o1 o2 T1
    rw [hY] at o1 o2 o4 o5 T2 TR
    rw [hV] at o3 o4 T3 TR
    rw [hZ] at o3 o6 T4
    rw [hI2] at o1
    rw [hJ] at o5 o6 i0 j1
    rw [hB] at x3 b0 b1
    have HI := Lib.hid hI2
    have HR := Lib.hid (And.intro hB hJ)
    clear hX hY hV hZ hI2 hI hIP hJ bm h5 h3 hB
    have herr : ∀ T, T ≤ Q + J → 1099511627776 < T → 1099511627776 < B + 5 + J := fun T _ _ => by omega
    rcases T1 with ⟨f1, E1⟩ | ⟨f1, E1⟩
    · have t1 := herr X (by omega) f1
      obtain ⟨⟨y2, c2⟩, E2⟩ : ∃ r, placeP (l.map toPiece) P true = r := ⟨_, rfl⟩
      obtain ⟨⟨y3, c3⟩, E3⟩ : ∃ r, placeP (l.map toPiece) Q false = r := ⟨_, rfl⟩
      obtain ⟨⟨y4, c4⟩, E4⟩ : ∃ r, placeP (l.map toPiece) Q true = r := ⟨_, rfl⟩
      have H1 := Lib.hid E1
      have H2 := Lib.hid E2
      have H3 := Lib.hid E3
      have H4 := Lib.hid E4
      clear E1 E2 E3 E4 o1 o2 o3 o4 o5 o6 herr TR
      go_enter Tryd.func6, Tryd.ntmps6
      go_wp2_with (first
                  | (go_at_call 8; refine (fixed14_any _ (hE.gr (by repeat (with_reducible first | assumption | exact Gr.refl _ | apply Gr.alloc | apply Gr.drewN | apply Gr.drew | apply Gr.iter | (refine Gr.setCell ?_ (by simp) _) | (refine Gr.trans ?_ (by assumption)))))).mono ?_; rintro e w1 ⟨rfl, hg1⟩)
                  | (go_at_call 9; refine (of14_yes l _ _ (hE.gr (by repeat (with_reducible first | assumption | exact Gr.refl _ | apply Gr.alloc | apply Gr.drewN | apply Gr.drew | apply Gr.iter | (refine Gr.setCell ?_ (by simp) _) | (refine Gr.trans ?_ (by assumption))))) (RdOps.gr hl (by repeat (with_reducible first | assumption | exact Gr.refl _ | apply Gr.alloc | apply Gr.drewN | apply Gr.drew | apply Gr.iter | (refine Gr.setCell ?_ (by simp) _) | (refine Gr.trans ?_ (by assumption))))) hT hN HC.out).mono ?_; rintro e w2 ⟨v2, rfl, hd2, hg2⟩; obtain ⟨g1, sl1, hv1, hbr1⟩ := hd2; subst hv1; have hD : DeltaR w2 (.pointer (some ⟨g1, 0, none⟩)) (l.map toPiece) := ⟨g1, sl1, rfl, hbr1⟩; clear hbr1)
                  | (go_at_call 20; (with_reducible refine (at14_any l _ m0 _ (hE.gr (by repeat (with_reducible first | assumption | exact Gr.refl _ | apply Gr.alloc | apply Gr.drewN | apply Gr.drew | apply Gr.iter | (refine Gr.setCell ?_ (by simp) _) | (refine Gr.trans ?_ (by assumption))))) (RdOps.gr hl (by repeat (with_reducible first | assumption | exact Gr.refl _ | apply Gr.alloc | apply Gr.drewN | apply Gr.drew | apply Gr.iter | (refine Gr.setCell ?_ (by simp) _) | (refine Gr.trans ?_ (by assumption))))) HC.out).mono ?_); rw [HP0.out]; rintro e w3 ⟨rfl, hg3⟩)
                  | (go_at_call 20; (with_reducible refine (at14_any l _ n0 _ (hE.gr (by repeat (with_reducible first | assumption | exact Gr.refl _ | apply Gr.alloc | apply Gr.drewN | apply Gr.drew | apply Gr.iter | (refine Gr.setCell ?_ (by simp) _) | (refine Gr.trans ?_ (by assumption))))) (RdOps.gr hl (by repeat (with_reducible first | assumption | exact Gr.refl _ | apply Gr.alloc | apply Gr.drewN | apply Gr.drew | apply Gr.iter | (refine Gr.setCell ?_ (by simp) _) | (refine Gr.trans ?_ (by assumption))))) HC.out).mono ?_); rw [HQ0.out]; rintro e w4 ⟨rfl, hg4⟩)
                  | (go_at_call 11; (with_reducible refine (place_any _ _ P false _ (hE.gr (by repeat (with_reducible first | assumption | exact Gr.refl _ | apply Gr.alloc | apply Gr.drewN | apply Gr.drew | apply Gr.iter | (refine Gr.setCell ?_ (by simp) _) | (refine Gr.trans ?_ (by assumption))))) (hD.gr (by repeat (with_reducible first | assumption | exact Gr.refl _ | apply Gr.alloc | apply Gr.drewN | apply Gr.drew | apply Gr.iter | (refine Gr.setCell ?_ (by simp) _) | (refine Gr.trans ?_ (by assumption))))) h2 hsz.out.1 hsz.out.2.1).mono ?_); rw [H1.out]; rintro e w5 ⟨rfl, hg5⟩; dsimp only; (try rw [errOf_zero]))
                  | (go_at_call 11; (with_reducible refine (place_any _ _ P true _ (hE.gr (by repeat (with_reducible first | assumption | exact Gr.refl _ | apply Gr.alloc | apply Gr.drewN | apply Gr.drew | apply Gr.iter | (refine Gr.setCell ?_ (by simp) _) | (refine Gr.trans ?_ (by assumption))))) (hD.gr (by repeat (with_reducible first | assumption | exact Gr.refl _ | apply Gr.alloc | apply Gr.drewN | apply Gr.drew | apply Gr.iter | (refine Gr.setCell ?_ (by simp) _) | (refine Gr.trans ?_ (by assumption))))) h2 hsz.out.1 hsz.out.2.1).mono ?_); rw [H2.out]; rintro e w6 ⟨rfl, hg6⟩; dsimp only; (try rw [errOf_zero]))
                  | (go_at_call 11; (with_reducible refine (place_any _ _ Q false _ (hE.gr (by repeat (with_reducible first | assumption | exact Gr.refl _ | apply Gr.alloc | apply Gr.drewN | apply Gr.drew | apply Gr.iter | (refine Gr.setCell ?_ (by simp) _) | (refine Gr.trans ?_ (by assumption))))) (hD.gr (by repeat (with_reducible first | assumption | exact Gr.refl _ | apply Gr.alloc | apply Gr.drewN | apply Gr.drew | apply Gr.iter | (refine Gr.setCell ?_ (by simp) _) | (refine Gr.trans ?_ (by assumption))))) h2 hsz.out.1 hsz.out.2.1).mono ?_); rw [H3.out]; rintro e w7 ⟨rfl, hg7⟩; dsimp only; (try rw [errOf_zero]))
                  | (go_at_call 11; (with_reducible refine (place_any _ _ Q true _ (hE.gr (by repeat (with_reducible first | assumption | exact Gr.refl _ | apply Gr.alloc | apply Gr.drewN | apply Gr.drew | apply Gr.iter | (refine Gr.setCell ?_ (by simp) _) | (refine Gr.trans ?_ (by assumption))))) (hD.gr (by repeat (with_reducible first | assumption | exact Gr.refl _ | apply Gr.alloc | apply Gr.drewN | apply Gr.drew | apply Gr.iter | (refine Gr.setCell ?_ (by simp) _) | (refine Gr.trans ?_ (by assumption))))) h2 hsz.out.1 hsz.out.2.1).mono ?_); rw [H4.out]; rintro e w8 ⟨rfl, hg8⟩; dsimp only; (try rw [errOf_zero]))
                  | (go_at_call 24; refine (base_any _ _ _ (hE.gr (by repeat (with_reducible first | assumption | exact Gr.refl _ | apply Gr.alloc | apply Gr.drewN | apply Gr.drew | apply Gr.iter | (refine Gr.setCell ?_ (by simp) _) | (refine Gr.trans ?_ (by assumption))))) (hD.gr (by repeat (with_reducible first | assumption | exact Gr.refl _ | apply Gr.alloc | apply Gr.drewN | apply Gr.drew | apply Gr.iter | (refine Gr.setCell ?_ (by simp) _) | (refine Gr.trans ?_ (by assumption))))) h2 hsz.out.1 hsz.out.2.1).mono ?_; rw [HR.out.1]; rintro e w9 ⟨rfl, hg9⟩)
                  | (go_at_call 26; refine (inserted_any _ _ _ (hE.gr (by repeat (with_reducible first | assumption | exact Gr.refl _ | apply Gr.alloc | apply Gr.drewN | apply Gr.drew | apply Gr.iter | (refine Gr.setCell ?_ (by simp) _) | (refine Gr.trans ?_ (by assumption))))) (hD.gr (by repeat (with_reducible first | assumption | exact Gr.refl _ | apply Gr.alloc | apply Gr.drewN | apply Gr.drew | apply Gr.iter | (refine Gr.setCell ?_ (by simp) _) | (refine Gr.trans ?_ (by assumption))))) h2 hsz.out.1 hsz.out.2.1).mono ?_; rw [HR.out.2]; rintro e w10 ⟨rfl, hg10⟩))
      all_goals go_ret
      all_goals exact ⟨rfl, (by repeat (with_reducible first | assumption | exact Gr.refl _ | apply Gr.alloc | apply Gr.drewN | apply Gr.drew | apply Gr.iter | (refine Gr.setCell ?_ (by simp) _) | (refine Gr.trans ?_ (by assumption))))⟩
    rcases T2 with ⟨f2, E2⟩ | ⟨f2, E2⟩
    · have t1 := herr Y (by omega) f2
      obtain ⟨⟨y3, c3⟩, E3⟩ : ∃ r, placeP (l.map toPiece) Q false = r := ⟨_, rfl⟩
      obtain ⟨⟨y4, c4⟩, E4⟩ : ∃ r, placeP (l.map toPiece) Q true = r := ⟨_, rfl⟩
      have H1 := Lib.hid E1
      have H2 := Lib.hid E2
      have H3 := Lib.hid E3
      have H4 := Lib.hid E4
      clear E1 E2 E3 E4 o1 o2 o3 o4 o5 o6 herr TR
      go_enter Tryd.func6, Tryd.ntmps6
      go_wp2_with (first
                  | (go_at_call 8; refine (fixed14_any _ (hE.gr (by repeat (with_reducible first | assumption | exact Gr.refl _ | apply Gr.alloc | apply Gr.drewN | apply Gr.drew | apply Gr.iter | (refine Gr.setCell ?_ (by simp) _) | (refine Gr.trans ?_ (by assumption)))))).mono ?_; rintro e w1 ⟨rfl, hg1⟩)
                  | (go_at_call 9; refine (of14_yes l _ _ (hE.gr (by repeat (with_reducible first | assumption | exact Gr.refl _ | apply Gr.alloc | apply Gr.drewN | apply Gr.drew | apply Gr.iter | (refine Gr.setCell ?_ (by simp) _) | (refine Gr.trans ?_ (by assumption))))) (RdOps.gr hl (by repeat (with_reducible first | assumption | exact Gr.refl _ | apply Gr.alloc | apply Gr.drewN | apply Gr.drew | apply Gr.iter | (refine Gr.setCell ?_ (by simp) _) | (refine Gr.trans ?_ (by assumption))))) hT hN HC.out).mono ?_; rintro e w2 ⟨v2, rfl, hd2, hg2⟩; obtain ⟨g1, sl1, hv1, hbr1⟩ := hd2; subst hv1; have hD : DeltaR w2 (.pointer (some ⟨g1, 0, none⟩)) (l.map toPiece) := ⟨g1, sl1, rfl, hbr1⟩; clear hbr1)
                  | (go_at_call 20; (with_reducible refine (at14_any l _ m0 _ (hE.gr (by repeat (with_reducible first | assumption | exact Gr.refl _ | apply Gr.alloc | apply Gr.drewN | apply Gr.drew | apply Gr.iter | (refine Gr.setCell ?_ (by simp) _) | (refine Gr.trans ?_ (by assumption))))) (RdOps.gr hl (by repeat (with_reducible first | assumption | exact Gr.refl _ | apply Gr.alloc | apply Gr.drewN | apply Gr.drew | apply Gr.iter | (refine Gr.setCell ?_ (by simp) _) | (refine Gr.trans ?_ (by assumption))))) HC.out).mono ?_); rw [HP0.out]; rintro e w3 ⟨rfl, hg3⟩)
                  | (go_at_call 20; (with_reducible refine (at14_any l _ n0 _ (hE.gr (by repeat (with_reducible first | assumption | exact Gr.refl _ | apply Gr.alloc | apply Gr.drewN | apply Gr.drew | apply Gr.iter | (refine Gr.setCell ?_ (by simp) _) | (refine Gr.trans ?_ (by assumption))))) (RdOps.gr hl (by repeat (with_reducible first | assumption | exact Gr.refl _ | apply Gr.alloc | apply Gr.drewN | apply Gr.drew | apply Gr.iter | (refine Gr.setCell ?_ (by simp) _) | (refine Gr.trans ?_ (by assumption))))) HC.out).mono ?_); rw [HQ0.out]; rintro e w4 ⟨rfl, hg4⟩)
                  | (go_at_call 11; (with_reducible refine (place_any _ _ P false _ (hE.gr (by repeat (with_reducible first | assumption | exact Gr.refl _ | apply Gr.alloc | apply Gr.drewN | apply Gr.drew | apply Gr.iter | (refine Gr.setCell ?_ (by simp) _) | (refine Gr.trans ?_ (by assumption))))) (hD.gr (by repeat (with_reducible first | assumption | exact Gr.refl _ | apply Gr.alloc | apply Gr.drewN | apply Gr.drew | apply Gr.iter | (refine Gr.setCell ?_ (by simp) _) | (refine Gr.trans ?_ (by assumption))))) h2 hsz.out.1 hsz.out.2.1).mono ?_); rw [H1.out]; rintro e w5 ⟨rfl, hg5⟩; dsimp only; (try rw [errOf_zero]))
                  | (go_at_call 11; (with_reducible refine (place_any _ _ P true _ (hE.gr (by repeat (with_reducible first | assumption | exact Gr.refl _ | apply Gr.alloc | apply Gr.drewN | apply Gr.drew | apply Gr.iter | (refine Gr.setCell ?_ (by simp) _) | (refine Gr.trans ?_ (by assumption))))) (hD.gr (by repeat (with_reducible first | assumption | exact Gr.refl _ | apply Gr.alloc | apply Gr.drewN | apply Gr.drew | apply Gr.iter | (refine Gr.setCell ?_ (by simp) _) | (refine Gr.trans ?_ (by assumption))))) h2 hsz.out.1 hsz.out.2.1).mono ?_); rw [H2.out]; rintro e w6 ⟨rfl, hg6⟩; dsimp only; (try rw [errOf_zero]))
                  | (go_at_call 11; (with_reducible refine (place_any _ _ Q false _ (hE.gr (by repeat (with_reducible first | assumption | exact Gr.refl _ | apply Gr.alloc | apply Gr.drewN | apply Gr.drew | apply Gr.iter | (refine Gr.setCell ?_ (by simp) _) | (refine Gr.trans ?_ (by assumption))))) (hD.gr (by repeat (with_reducible first | assumption | exact Gr.refl _ | apply Gr.alloc | apply Gr.drewN | apply Gr.drew | apply Gr.iter | (refine Gr.setCell ?_ (by simp) _) | (refine Gr.trans ?_ (by assumption))))) h2 hsz.out.1 hsz.out.2.1).mono ?_); rw [H3.out]; rintro e w7 ⟨rfl, hg7⟩; dsimp only; (try rw [errOf_zero]))
                  | (go_at_call 11; (with_reducible refine (place_any _ _ Q true _ (hE.gr (by repeat (with_reducible first | assumption | exact Gr.refl _ | apply Gr.alloc | apply Gr.drewN | apply Gr.drew | apply Gr.iter | (refine Gr.setCell ?_ (by simp) _) | (refine Gr.trans ?_ (by assumption))))) (hD.gr (by repeat (with_reducible first | assumption | exact Gr.refl _ | apply Gr.alloc | apply Gr.drewN | apply Gr.drew | apply Gr.iter | (refine Gr.setCell ?_ (by simp) _) | (refine Gr.trans ?_ (by assumption))))) h2 hsz.out.1 hsz.out.2.1).mono ?_); rw [H4.out]; rintro e w8 ⟨rfl, hg8⟩; dsimp only; (try rw [errOf_zero]))
                  | (go_at_call 24; refine (base_any _ _ _ (hE.gr (by repeat (with_reducible first | assumption | exact Gr.refl _ | apply Gr.alloc | apply Gr.drewN | apply Gr.drew | apply Gr.iter | (refine Gr.setCell ?_ (by simp) _) | (refine Gr.trans ?_ (by assumption))))) (hD.gr (by repeat (with_reducible first | assumption | exact Gr.refl _ | apply Gr.alloc | apply Gr.drewN | apply Gr.drew | apply Gr.iter | (refine Gr.setCell ?_ (by simp) _) | (refine Gr.trans ?_ (by assumption))))) h2 hsz.out.1 hsz.out.2.1).mono ?_; rw [HR.out.1]; rintro e w9 ⟨rfl, hg9⟩)
                  | (go_at_call 26; refine (inserted_any _ _ _ (hE.gr (by repeat (with_reducible first | assumption | exact Gr.refl _ | apply Gr.alloc | apply Gr.drewN | apply Gr.drew | apply Gr.iter | (refine Gr.setCell ?_ (by simp) _) | (refine Gr.trans ?_ (by assumption))))) (hD.gr (by repeat (with_reducible first | assumption | exact Gr.refl _ | apply Gr.alloc | apply Gr.drewN | apply Gr.drew | apply Gr.iter | (refine Gr.setCell ?_ (by simp) _) | (refine Gr.trans ?_ (by assumption))))) h2 hsz.out.1 hsz.out.2.1).mono ?_; rw [HR.out.2]; rintro e w10 ⟨rfl, hg10⟩))
      all_goals go_ret
      all_goals exact ⟨rfl, (by repeat (with_reducible first | assumption | exact Gr.refl _ | apply Gr.alloc | apply Gr.drewN | apply Gr.drew | apply Gr.iter | (refine Gr.setCell ?_ (by simp) _) | (refine Gr.trans ?_ (by assumption))))⟩
    rcases T3 with ⟨f3, E3⟩ | ⟨f3, E3⟩
    · have t1 := herr V (by omega) f3
      obtain ⟨⟨y4, c4⟩, E4⟩ : ∃ r, placeP (l.map toPiece) Q true = r := ⟨_, rfl⟩
      have H1 := Lib.hid E1
      have H2 := Lib.hid E2
      have H3 := Lib.hid E3
      have H4 := Lib.hid E4
      clear E1 E2 E3 E4 o1 o2 o3 o4 o5 o6 herr TR
      go_enter Tryd.func6, Tryd.ntmps6
      go_wp2_with (first
                  | (go_at_call 8; refine (fixed14_any _ (hE.gr (by repeat (with_reducible first | assumption | exact Gr.refl _ | apply Gr.alloc | apply Gr.drewN | apply Gr.drew | apply Gr.iter | (refine Gr.setCell ?_ (by simp) _) | (refine Gr.trans ?_ (by assumption)))))).mono ?_; rintro e w1 ⟨rfl, hg1⟩)
                  | (go_at_call 9; refine (of14_yes l _ _ (hE.gr (by repeat (with_reducible first | assumption | exact Gr.refl _ | apply Gr.alloc | apply Gr.drewN | apply Gr.drew | apply Gr.iter | (refine Gr.setCell ?_ (by simp) _) | (refine Gr.trans ?_ (by assumption))))) (RdOps.gr hl (by repeat (with_reducible first | assumption | exact Gr.refl _ | apply Gr.alloc | apply Gr.drewN | apply Gr.drew | apply Gr.iter | (refine Gr.setCell ?_ (by simp) _) | (refine Gr.trans ?_ (by assumption))))) hT hN HC.out).mono ?_; rintro e w2 ⟨v2, rfl, hd2, hg2⟩; obtain ⟨g1, sl1, hv1, hbr1⟩ := hd2; subst hv1; have hD : DeltaR w2 (.pointer (some ⟨g1, 0, none⟩)) (l.map toPiece) := ⟨g1, sl1, rfl, hbr1⟩; clear hbr1)
                  | (go_at_call 20; (with_reducible refine (at14_any l _ m0 _ (hE.gr (by repeat (with_reducible first | assumption | exact Gr.refl _ | apply Gr.alloc | apply Gr.drewN | apply Gr.drew | apply Gr.iter | (refine Gr.setCell ?_ (by simp) _) | (refine Gr.trans ?_ (by assumption))))) (RdOps.gr hl (by repeat (with_reducible first | assumption | exact Gr.refl _ | apply Gr.alloc | apply Gr.drewN | apply Gr.drew | apply Gr.iter | (refine Gr.setCell ?_ (by simp) _) | (refine Gr.trans ?_ (by assumption))))) HC.out).mono ?_); rw [HP0.out]; rintro e w3 ⟨rfl, hg3⟩)
                  | (go_at_call 20; (with_reducible refine (at14_any l _ n0 _ (hE.gr (by repeat (with_reducible first | assumption | exact Gr.refl _ | apply Gr.alloc | apply Gr.drewN | apply Gr.drew | apply Gr.iter | (refine Gr.setCell ?_ (by simp) _) | (refine Gr.trans ?_ (by assumption))))) (RdOps.gr hl (by repeat (with_reducible first | assumption | exact Gr.refl _ | apply Gr.alloc | apply Gr.drewN | apply Gr.drew | apply Gr.iter | (refine Gr.setCell ?_ (by simp) _) | (refine Gr.trans ?_ (by assumption))))) HC.out).mono ?_); rw [HQ0.out]; rintro e w4 ⟨rfl, hg4⟩)
                  | (go_at_call 11; (with_reducible refine (place_any _ _ P false _ (hE.gr (by repeat (with_reducible first | assumption | exact Gr.refl _ | apply Gr.alloc | apply Gr.drewN | apply Gr.drew | apply Gr.iter | (refine Gr.setCell ?_ (by simp) _) | (refine Gr.trans ?_ (by assumption))))) (hD.gr (by repeat (with_reducible first | assumption | exact Gr.refl _ | apply Gr.alloc | apply Gr.drewN | apply Gr.drew | apply Gr.iter | (refine Gr.setCell ?_ (by simp) _) | (refine Gr.trans ?_ (by assumption))))) h2 hsz.out.1 hsz.out.2.1).mono ?_); rw [H1.out]; rintro e w5 ⟨rfl, hg5⟩; dsimp only; (try rw [errOf_zero]))
                  | (go_at_call 11; (with_reducible refine (place_any _ _ P true _ (hE.gr (by repeat (with_reducible first | assumption | exact Gr.refl _ | apply Gr.alloc | apply Gr.drewN | apply Gr.drew | apply Gr.iter | (refine Gr.setCell ?_ (by simp) _) | (refine Gr.trans ?_ (by assumption))))) (hD.gr (by repeat (with_reducible first | assumption | exact Gr.refl _ | apply Gr.alloc | apply Gr.drewN | apply Gr.drew | apply Gr.iter | (refine Gr.setCell ?_ (by simp) _) | (refine Gr.trans ?_ (by assumption))))) h2 hsz.out.1 hsz.out.2.1).mono ?_); rw [H2.out]; rintro e w6 ⟨rfl, hg6⟩; dsimp only; (try rw [errOf_zero]))
                  | (go_at_call 11; (with_reducible refine (place_any _ _ Q false _ (hE.gr (by repeat (with_reducible first | assumption | exact Gr.refl _ | apply Gr.alloc | apply Gr.drewN | apply Gr.drew | apply Gr.iter | (refine Gr.setCell ?_ (by simp) _) | (refine Gr.trans ?_ (by assumption))))) (hD.gr (by repeat (with_reducible first | assumption | exact Gr.refl _ | apply Gr.alloc | apply Gr.drewN | apply Gr.drew | apply Gr.iter | (refine Gr.setCell ?_ (by simp) _) | (refine Gr.trans ?_ (by assumption))))) h2 hsz.out.1 hsz.out.2.1).mono ?_); rw [H3.out]; rintro e w7 ⟨rfl, hg7⟩; dsimp only; (try rw [errOf_zero]))
                  | (go_at_call 11; (with_reducible refine (place_any _ _ Q true _ (hE.gr (by repeat (with_reducible first | assumption | exact Gr.refl _ | apply Gr.alloc | apply Gr.drewN | apply Gr.drew | apply Gr.iter | (refine Gr.setCell ?_ (by simp) _) | (refine Gr.trans ?_ (by assumption))))) (hD.gr (by repeat (with_reducible first | assumption | exact Gr.refl _ | apply Gr.alloc | apply Gr.drewN | apply Gr.drew | apply Gr.iter | (refine Gr.setCell ?_ (by simp) _) | (refine Gr.trans ?_ (by assumption))))) h2 hsz.out.1 hsz.out.2.1).mono ?_); rw [H4.out]; rintro e w8 ⟨rfl, hg8⟩; dsimp only; (try rw [errOf_zero]))
                  | (go_at_call 24; refine (base_any _ _ _ (hE.gr (by repeat (with_reducible first | assumption | exact Gr.refl _ | apply Gr.alloc | apply Gr.drewN | apply Gr.drew | apply Gr.iter | (refine Gr.setCell ?_ (by simp) _) | (refine Gr.trans ?_ (by assumption))))) (hD.gr (by repeat (with_reducible first | assumption | exact Gr.refl _ | apply Gr.alloc | apply Gr.drewN | apply Gr.drew | apply Gr.iter | (refine Gr.setCell ?_ (by simp) _) | (refine Gr.trans ?_ (by assumption))))) h2 hsz.out.1 hsz.out.2.1).mono ?_; rw [HR.out.1]; rintro e w9 ⟨rfl, hg9⟩)
                  | (go_at_call 26; refine (inserted_any _ _ _ (hE.gr (by repeat (with_reducible first | assumption | exact Gr.refl _ | apply Gr.alloc | apply Gr.drewN | apply Gr.drew | apply Gr.iter | (refine Gr.setCell ?_ (by simp) _) | (refine Gr.trans ?_ (by assumption))))) (hD.gr (by repeat (with_reducible first | assumption | exact Gr.refl _ | apply Gr.alloc | apply Gr.drewN | apply Gr.drew | apply Gr.iter | (refine Gr.setCell ?_ (by simp) _) | (refine Gr.trans ?_ (by assumption))))) h2 hsz.out.1 hsz.out.2.1).mono ?_; rw [HR.out.2]; rintro e w10 ⟨rfl, hg10⟩))
      all_goals go_ret
      all_goals exact ⟨rfl, (by repeat (with_reducible first | assumption | exact Gr.refl _ | apply Gr.alloc | apply Gr.drewN | apply Gr.drew | apply Gr.iter | (refine Gr.setCell ?_ (by simp) _) | (refine Gr.trans ?_ (by assumption))))⟩
    rcases T4 with ⟨f4, E4⟩ | ⟨f4, E4⟩
    · have t1 := herr Z (by omega) f4
      have H1 := Lib.hid E1
      have H2 := Lib.hid E2
      have H3 := Lib.hid E3
      have H4 := Lib.hid E4
      clear E1 E2 E3 E4 o1 o2 o3 o4 o5 o6 herr TR
      go_enter Tryd.func6, Tryd.ntmps6
      go_wp2_with (first
                  | (go_at_call 8; refine (fixed14_any _ (hE.gr (by repeat (with_reducible first | assumption | exact Gr.refl _ | apply Gr.alloc | apply Gr.drewN | apply Gr.drew | apply Gr.iter | (refine Gr.setCell ?_ (by simp) _) | (refine Gr.trans ?_ (by assumption)))))).mono ?_; rintro e w1 ⟨rfl, hg1⟩)
                  | (go_at_call 9; refine (of14_yes l _ _ (hE.gr (by repeat (with_reducible first | assumption | exact Gr.refl _ | apply Gr.alloc | apply Gr.drewN | apply Gr.drew | apply Gr.iter | (refine Gr.setCell ?_ (by simp) _) | (refine Gr.trans ?_ (by assumption))))) (RdOps.gr hl (by repeat (with_reducible first | assumption | exact Gr.refl _ | apply Gr.alloc | apply Gr.drewN | apply Gr.drew | apply Gr.iter | (refine Gr.setCell ?_ (by simp) _) | (refine Gr.trans ?_ (by assumption))))) hT hN HC.out).mono ?_; rintro e w2 ⟨v2, rfl, hd2, hg2⟩; obtain ⟨g1, sl1, hv1, hbr1⟩ := hd2; subst hv1; have hD : DeltaR w2 (.pointer (some ⟨g1, 0, none⟩)) (l.map toPiece) := ⟨g1, sl1, rfl, hbr1⟩; clear hbr1)
                  | (go_at_call 20; (with_reducible refine (at14_any l _ m0 _ (hE.gr (by repeat (with_reducible first | assumption | exact Gr.refl _ | apply Gr.alloc | apply Gr.drewN | apply Gr.drew | apply Gr.iter | (refine Gr.setCell ?_ (by simp) _) | (refine Gr.trans ?_ (by assumption))))) (RdOps.gr hl (by repeat (with_reducible first | assumption | exact Gr.refl _ | apply Gr.alloc | apply Gr.drewN | apply Gr.drew | apply Gr.iter | (refine Gr.setCell ?_ (by simp) _) | (refine Gr.trans ?_ (by assumption))))) HC.out).mono ?_); rw [HP0.out]; rintro e w3 ⟨rfl, hg3⟩)
                  | (go_at_call 20; (with_reducible refine (at14_any l _ n0 _ (hE.gr (by repeat (with_reducible first | assumption | exact Gr.refl _ | apply Gr.alloc | apply Gr.drewN | apply Gr.drew | apply Gr.iter | (refine Gr.setCell ?_ (by simp) _) | (refine Gr.trans ?_ (by assumption))))) (RdOps.gr hl (by repeat (with_reducible first | assumption | exact Gr.refl _ | apply Gr.alloc | apply Gr.drewN | apply Gr.drew | apply Gr.iter | (refine Gr.setCell ?_ (by simp) _) | (refine Gr.trans ?_ (by assumption))))) HC.out).mono ?_); rw [HQ0.out]; rintro e w4 ⟨rfl, hg4⟩)
                  | (go_at_call 11; (with_reducible refine (place_any _ _ P false _ (hE.gr (by repeat (with_reducible first | assumption | exact Gr.refl _ | apply Gr.alloc | apply Gr.drewN | apply Gr.drew | apply Gr.iter | (refine Gr.setCell ?_ (by simp) _) | (refine Gr.trans ?_ (by assumption))))) (hD.gr (by repeat (with_reducible first | assumption | exact Gr.refl _ | apply Gr.alloc | apply Gr.drewN | apply Gr.drew | apply Gr.iter | (refine Gr.setCell ?_ (by simp) _) | (refine Gr.trans ?_ (by assumption))))) h2 hsz.out.1 hsz.out.2.1).mono ?_); rw [H1.out]; rintro e w5 ⟨rfl, hg5⟩; dsimp only; (try rw [errOf_zero]))
                  | (go_at_call 11; (with_reducible refine (place_any _ _ P true _ (hE.gr (by repeat (with_reducible first | assumption | exact Gr.refl _ | apply Gr.alloc | apply Gr.drewN | apply Gr.drew | apply Gr.iter | (refine Gr.setCell ?_ (by simp) _) | (refine Gr.trans ?_ (by assumption))))) (hD.gr (by repeat (with_reducible first | assumption | exact Gr.refl _ | apply Gr.alloc | apply Gr.drewN | apply Gr.drew | apply Gr.iter | (refine Gr.setCell ?_ (by simp) _) | (refine Gr.trans ?_ (by assumption))))) h2 hsz.out.1 hsz.out.2.1).mono ?_); rw [H2.out]; rintro e w6 ⟨rfl, hg6⟩; dsimp only; (try rw [errOf_zero]))
                  | (go_at_call 11; (with_reducible refine (place_any _ _ Q false _ (hE.gr (by repeat (with_reducible first | assumption | exact Gr.refl _ | apply Gr.alloc | apply Gr.drewN | apply Gr.drew | apply Gr.iter | (refine Gr.setCell ?_ (by simp) _) | (refine Gr.trans ?_ (by assumption))))) (hD.gr (by repeat (with_reducible first | assumption | exact Gr.refl _ | apply Gr.alloc | apply Gr.drewN | apply Gr.drew | apply Gr.iter | (refine Gr.setCell ?_ (by simp) _) | (refine Gr.trans ?_ (by assumption))))) h2 hsz.out.1 hsz.out.2.1).mono ?_); rw [H3.out]; rintro e w7 ⟨rfl, hg7⟩; dsimp only; (try rw [errOf_zero]))
                  | (go_at_call 11; (with_reducible refine (place_any _ _ Q true _ (hE.gr (by repeat (with_reducible first | assumption | exact Gr.refl _ | apply Gr.alloc | apply Gr.drewN | apply Gr.drew | apply Gr.iter | (refine Gr.setCell ?_ (by simp) _) | (refine Gr.trans ?_ (by assumption))))) (hD.gr (by repeat (with_reducible first | assumption | exact Gr.refl _ | apply Gr.alloc | apply Gr.drewN | apply Gr.drew | apply Gr.iter | (refine Gr.setCell ?_ (by simp) _) | (refine Gr.trans ?_ (by assumption))))) h2 hsz.out.1 hsz.out.2.1).mono ?_); rw [H4.out]; rintro e w8 ⟨rfl, hg8⟩; dsimp only; (try rw [errOf_zero]))
                  | (go_at_call 24; refine (base_any _ _ _ (hE.gr (by repeat (with_reducible first | assumption | exact Gr.refl _ | apply Gr.alloc | apply Gr.drewN | apply Gr.drew | apply Gr.iter | (refine Gr.setCell ?_ (by simp) _) | (refine Gr.trans ?_ (by assumption))))) (hD.gr (by repeat (with_reducible first | assumption | exact Gr.refl _ | apply Gr.alloc | apply Gr.drewN | apply Gr.drew | apply Gr.iter | (refine Gr.setCell ?_ (by simp) _) | (refine Gr.trans ?_ (by assumption))))) h2 hsz.out.1 hsz.out.2.1).mono ?_; rw [HR.out.1]; rintro e w9 ⟨rfl, hg9⟩)
                  | (go_at_call 26; refine (inserted_any _ _ _ (hE.gr (by repeat (with_reducible first | assumption | exact Gr.refl _ | apply Gr.alloc | apply Gr.drewN | apply Gr.drew | apply Gr.iter | (refine Gr.setCell ?_ (by simp) _) | (refine Gr.trans ?_ (by assumption))))) (hD.gr (by repeat (with_reducible first | assumption | exact Gr.refl _ | apply Gr.alloc | apply Gr.drewN | apply Gr.drew | apply Gr.iter | (refine Gr.setCell ?_ (by simp) _) | (refine Gr.trans ?_ (by assumption))))) h2 hsz.out.1 hsz.out.2.1).mono ?_; rw [HR.out.2]; rintro e w10 ⟨rfl, hg10⟩))
      all_goals go_ret
      all_goals exact ⟨rfl, (by repeat (with_reducible first | assumption | exact Gr.refl _ | apply Gr.alloc | apply Gr.drewN | apply Gr.drew | apply Gr.iter | (refine Gr.setCell ?_ (by simp) _) | (refine Gr.trans ?_ (by assumption))))⟩
    have ER := Lib.hid (TR f3)
    have H1 := Lib.hid E1
    have H2 := Lib.hid E2
    have H3 := Lib.hid E3
    have H4 := Lib.hid E4
    clear E1 E2 E3 E4 herr TR o5 o6
    by_cases hpq : P = Q
    · have hpq1 : (P == Q) = true := by simpa using hpq
      have hpq2 : ¬ P < Q := by omega
      have hmn : min Y V ≤ V := by omega
      obtain ⟨M, hM⟩ : ∃ M, min Y V = M := ⟨_, rfl⟩
      rw [hM] at ER hmn
      clear hpq o4 hM
      go_enter Tryd.func6, Tryd.ntmps6
      go_wp2_with (first
                  | (go_at_call 8; refine (fixed14_any _ (hE.gr (by repeat (with_reducible first | assumption | exact Gr.refl _ | apply Gr.alloc | apply Gr.drewN | apply Gr.drew | apply Gr.iter | (refine Gr.setCell ?_ (by simp) _) | (refine Gr.trans ?_ (by assumption)))))).mono ?_; rintro e w1 ⟨rfl, hg1⟩)
                  | (go_at_call 9; refine (of14_yes l _ _ (hE.gr (by repeat (with_reducible first | assumption | exact Gr.refl _ | apply Gr.alloc | apply Gr.drewN | apply Gr.drew | apply Gr.iter | (refine Gr.setCell ?_ (by simp) _) | (refine Gr.trans ?_ (by assumption))))) (RdOps.gr hl (by repeat (with_reducible first | assumption | exact Gr.refl _ | apply Gr.alloc | apply Gr.drewN | apply Gr.drew | apply Gr.iter | (refine Gr.setCell ?_ (by simp) _) | (refine Gr.trans ?_ (by assumption))))) hT hN HC.out).mono ?_; rintro e w2 ⟨v2, rfl, hd2, hg2⟩; obtain ⟨g1, sl1, hv1, hbr1⟩ := hd2; subst hv1; have hD : DeltaR w2 (.pointer (some ⟨g1, 0, none⟩)) (l.map toPiece) := ⟨g1, sl1, rfl, hbr1⟩; clear hbr1)
                  | (go_at_call 20; (with_reducible refine (at14_any l _ m0 _ (hE.gr (by repeat (with_reducible first | assumption | exact Gr.refl _ | apply Gr.alloc | apply Gr.drewN | apply Gr.drew | apply Gr.iter | (refine Gr.setCell ?_ (by simp) _) | (refine Gr.trans ?_ (by assumption))))) (RdOps.gr hl (by repeat (with_reducible first | assumption | exact Gr.refl _ | apply Gr.alloc | apply Gr.drewN | apply Gr.drew | apply Gr.iter | (refine Gr.setCell ?_ (by simp) _) | (refine Gr.trans ?_ (by assumption))))) HC.out).mono ?_); rw [HP0.out]; rintro e w3 ⟨rfl, hg3⟩)
                  | (go_at_call 20; (with_reducible refine (at14_any l _ n0 _ (hE.gr (by repeat (with_reducible first | assumption | exact Gr.refl _ | apply Gr.alloc | apply Gr.drewN | apply Gr.drew | apply Gr.iter | (refine Gr.setCell ?_ (by simp) _) | (refine Gr.trans ?_ (by assumption))))) (RdOps.gr hl (by repeat (with_reducible first | assumption | exact Gr.refl _ | apply Gr.alloc | apply Gr.drewN | apply Gr.drew | apply Gr.iter | (refine Gr.setCell ?_ (by simp) _) | (refine Gr.trans ?_ (by assumption))))) HC.out).mono ?_); rw [HQ0.out]; rintro e w4 ⟨rfl, hg4⟩)
                  | (go_at_call 11; (with_reducible refine (place_any _ _ P false _ (hE.gr (by repeat (with_reducible first | assumption | exact Gr.refl _ | apply Gr.alloc | apply Gr.drewN | apply Gr.drew | apply Gr.iter | (refine Gr.setCell ?_ (by simp) _) | (refine Gr.trans ?_ (by assumption))))) (hD.gr (by repeat (with_reducible first | assumption | exact Gr.refl _ | apply Gr.alloc | apply Gr.drewN | apply Gr.drew | apply Gr.iter | (refine Gr.setCell ?_ (by simp) _) | (refine Gr.trans ?_ (by assumption))))) h2 hsz.out.1 hsz.out.2.1).mono ?_); rw [H1.out]; rintro e w5 ⟨rfl, hg5⟩; dsimp only; (try rw [errOf_zero]))
                  | (go_at_call 11; (with_reducible refine (place_any _ _ P true _ (hE.gr (by repeat (with_reducible first | assumption | exact Gr.refl _ | apply Gr.alloc | apply Gr.drewN | apply Gr.drew | apply Gr.iter | (refine Gr.setCell ?_ (by simp) _) | (refine Gr.trans ?_ (by assumption))))) (hD.gr (by repeat (with_reducible first | assumption | exact Gr.refl _ | apply Gr.alloc | apply Gr.drewN | apply Gr.drew | apply Gr.iter | (refine Gr.setCell ?_ (by simp) _) | (refine Gr.trans ?_ (by assumption))))) h2 hsz.out.1 hsz.out.2.1).mono ?_); rw [H2.out]; rintro e w6 ⟨rfl, hg6⟩; dsimp only; (try rw [errOf_zero]))
                  | (go_at_call 11; (with_reducible refine (place_any _ _ Q false _ (hE.gr (by repeat (with_reducible first | assumption | exact Gr.refl _ | apply Gr.alloc | apply Gr.drewN | apply Gr.drew | apply Gr.iter | (refine Gr.setCell ?_ (by simp) _) | (refine Gr.trans ?_ (by assumption))))) (hD.gr (by repeat (with_reducible first | assumption | exact Gr.refl _ | apply Gr.alloc | apply Gr.drewN | apply Gr.drew | apply Gr.iter | (refine Gr.setCell ?_ (by simp) _) | (refine Gr.trans ?_ (by assumption))))) h2 hsz.out.1 hsz.out.2.1).mono ?_); rw [H3.out]; rintro e w7 ⟨rfl, hg7⟩; dsimp only; (try rw [errOf_zero]))
                  | (go_at_call 11; (with_reducible refine (place_any _ _ Q true _ (hE.gr (by repeat (with_reducible first | assumption | exact Gr.refl _ | apply Gr.alloc | apply Gr.drewN | apply Gr.drew | apply Gr.iter | (refine Gr.setCell ?_ (by simp) _) | (refine Gr.trans ?_ (by assumption))))) (hD.gr (by repeat (with_reducible first | assumption | exact Gr.refl _ | apply Gr.alloc | apply Gr.drewN | apply Gr.drew | apply Gr.iter | (refine Gr.setCell ?_ (by simp) _) | (refine Gr.trans ?_ (by assumption))))) h2 hsz.out.1 hsz.out.2.1).mono ?_); rw [H4.out]; rintro e w8 ⟨rfl, hg8⟩; dsimp only; (try rw [errOf_zero]))
                  | (go_at_call 24; refine (base_any _ _ _ (hE.gr (by repeat (with_reducible first | assumption | exact Gr.refl _ | apply Gr.alloc | apply Gr.drewN | apply Gr.drew | apply Gr.iter | (refine Gr.setCell ?_ (by simp) _) | (refine Gr.trans ?_ (by assumption))))) (hD.gr (by repeat (with_reducible first | assumption | exact Gr.refl _ | apply Gr.alloc | apply Gr.drewN | apply Gr.drew | apply Gr.iter | (refine Gr.setCell ?_ (by simp) _) | (refine Gr.trans ?_ (by assumption))))) h2 hsz.out.1 hsz.out.2.1).mono ?_; rw [HR.out.1]; rintro e w9 ⟨rfl, hg9⟩)
                  | (go_at_call 26; refine (inserted_any _ _ _ (hE.gr (by repeat (with_reducible first | assumption | exact Gr.refl _ | apply Gr.alloc | apply Gr.drewN | apply Gr.drew | apply Gr.iter | (refine Gr.setCell ?_ (by simp) _) | (refine Gr.trans ?_ (by assumption))))) (hD.gr (by repeat (with_reducible first | assumption | exact Gr.refl _ | apply Gr.alloc | apply Gr.drewN | apply Gr.drew | apply Gr.iter | (refine Gr.setCell ?_ (by simp) _) | (refine Gr.trans ?_ (by assumption))))) h2 hsz.out.1 hsz.out.2.1).mono ?_; rw [HR.out.2]; rintro e w10 ⟨rfl, hg10⟩))
      go_loopw [18, 19, 90] (fun s g i wr => ∃ (k : Nat) (S G : Int), k ≤ n ∧ i = .int .i64 k ∧ s = .int .i64 S ∧ g = .int .i64 G ∧ 0 ≤ G ∧ G + sumB (l.drop k) ≤ 1099511627776 ∧ 0 ≤ S ∧ S + sumR (l.drop k) ≤ 1099511627776 ∧ Gr w2 wr ∧ insO P G S (l.drop k) = I) (fun _ _ i _ => n - (intOf i).toNat)
      case atStart => exact ⟨0, 0, 0, Nat.zero_le _, rfl, rfl, rfl, by omega, by simpa using hsz.out.2.2.1, by omega, by simpa using hsz.out.2.2.2, (by repeat (with_reducible first | assumption | exact Gr.refl _ | apply Gr.alloc | apply Gr.drewN | apply Gr.drew | apply Gr.iter | (refine Gr.setCell ?_ (by simp) _) | (refine Gr.trans ?_ (by assumption)))), HI.out⟩
      case round =>
        obtain ⟨k, S, G, hk, rfl, rfl, rfl, hg0, hgb, hs0, hsr, hg, hc⟩ := hrel
        have Hc := Lib.hid hc; clear hc
        by_cases hlt : k < n
        · obtain ⟨blk, off, xk, xt, xa, xb, xv, xc, ats, sl, hx, rfl, hr, c0, c1, c2, c3, c4, c5, c6, z1, z2⟩ := (RdOps.gr (w := w) (w' := wr) hl (by repeat (with_reducible first | assumption | exact Gr.refl _ | apply Gr.alloc | apply Gr.drewN | apply Gr.drew | apply Gr.iter | (refine Gr.setCell ?_ (by simp) _) | (refine Gr.trans ?_ (by assumption))))).at_ k hlt
          have hck := hok _ (List.mem_of_getElem? hx)
          have hkind := ok_kind hck
          simp only at hkind
          have hbn := sumB_nn (ops_drop hok (k + 1))
          have hrn := sumR_nn (ops_drop hok (k + 1))
          rw [drop_cons hx] at hgb hsr
          simp only [sumB, sumR] at hgb hsr
          obtain ⟨N0, N1⟩ := rlen_bound hck z1
          have HQ := (congrArg (insO P G S) (drop_cons hx)).symm.trans Hc.out
          clear hx hck
          have hlt' : (k : Int) < n := by omega
          simp only [insO, baseO, resO] at HQ hgb hsr
          obtain ⟨N, hN'⟩ : ∃ N, rlen ⟨xk, xt, ⟨xa, xb, xv⟩, xc, ats⟩ = N := ⟨_, rfl⟩
          rw [hN'] at N0 N1 hgb hsr HQ
          have s1 := z1
          obtain ⟨sa, sc, hsl, -⟩ := RdList.slice hr
          subst hsl
          rcases hkind with rfl | rfl | rfl | rfl
          · rw [if_pos (by omega)] at HQ
            simp at hgb hsr
            have HN := Lib.hid hN'; clear hN'
            by_cases h7 : G = P
            · rw [if_pos h7] at HQ
              have HC := Lib.hid HQ; clear HQ
              have h8 : (G == P) = true := by simpa using h7
              have H7 := Lib.hid h7; clear h7
              go_wp2_with (go_at_call 29; refine (rlen_any _ _ _ _ _ _ _ ats _ (RdAttrs.gr (w := wr) hr (by repeat (with_reducible first | assumption | exact Gr.refl _ | apply Gr.alloc | apply Gr.drewN | apply Gr.drew | apply Gr.iter | (refine Gr.setCell ?_ (by simp) _) | (refine Gr.trans ?_ (by assumption))))) s1).mono ?_; rw [HN.out]; rintro e w11 ⟨rfl, hg11⟩)
              go_roundw
              case rel => exact ⟨k + 1, S + N, G, by omega, by go_num, rfl, rfl, by omega, by omega, by omega, by omega, (by repeat (with_reducible first | assumption | exact Gr.refl _ | apply Gr.alloc | apply Gr.drewN | apply Gr.drew | apply Gr.iter | (refine Gr.setCell ?_ (by simp) _) | (refine Gr.trans ?_ (by assumption)))), HC.out⟩
              case measure => simp [intOf]; omega
            · rw [if_neg h7] at HQ
              have HC := Lib.hid HQ; clear HQ
              have h8 : (G == P) = false := by simpa using h7
              clear h7
              go_wp2
              go_roundw
              case rel => exact ⟨k + 1, S, G, by omega, by go_num, rfl, rfl, by omega, by omega, by omega, by omega, (by repeat (with_reducible first | assumption | exact Gr.refl _ | apply Gr.alloc | apply Gr.drewN | apply Gr.drew | apply Gr.iter | (refine Gr.setCell ?_ (by simp) _) | (refine Gr.trans ?_ (by assumption)))), HC.out⟩
              case measure => simp [intOf]; omega
          · rw [if_pos (by omega)] at HQ
            simp at hgb hsr
            have HN := Lib.hid hN'; clear hN'
            by_cases h7 : G = P
            · rw [if_pos h7] at HQ
              have HC := Lib.hid HQ; clear HQ
              have h8 : (G == P) = true := by simpa using h7
              have H7 := Lib.hid h7; clear h7
              go_wp2_with (go_at_call 29; refine (rlen_any _ _ _ _ _ _ _ ats _ (RdAttrs.gr (w := wr) hr (by repeat (with_reducible first | assumption | exact Gr.refl _ | apply Gr.alloc | apply Gr.drewN | apply Gr.drew | apply Gr.iter | (refine Gr.setCell ?_ (by simp) _) | (refine Gr.trans ?_ (by assumption))))) s1).mono ?_; rw [HN.out]; rintro e w11 ⟨rfl, hg11⟩)
              go_roundw
              case rel => exact ⟨k + 1, S + N, G, by omega, by go_num, rfl, rfl, by omega, by omega, by omega, by omega, (by repeat (with_reducible first | assumption | exact Gr.refl _ | apply Gr.alloc | apply Gr.drewN | apply Gr.drew | apply Gr.iter | (refine Gr.setCell ?_ (by simp) _) | (refine Gr.trans ?_ (by assumption)))), HC.out⟩
              case measure => simp [intOf]; omega
            · rw [if_neg h7] at HQ
              have HC := Lib.hid HQ; clear HQ
              have h8 : (G == P) = false := by simpa using h7
              clear h7
              go_wp2
              go_roundw
              case rel => exact ⟨k + 1, S, G, by omega, by go_num, rfl, rfl, by omega, by omega, by omega, by omega, (by repeat (with_reducible first | assumption | exact Gr.refl _ | apply Gr.alloc | apply Gr.drewN | apply Gr.drew | apply Gr.iter | (refine Gr.setCell ?_ (by simp) _) | (refine Gr.trans ?_ (by assumption)))), HC.out⟩
              case measure => simp [intOf]; omega
          · rw [if_neg (by omega)] at HQ
            simp at hgb hsr
            rw [rlen3 _ _ _ _ (.inl rfl)] at hN'
            subst hN'
            have HC := Lib.hid HQ; clear HQ
            go_wp2
            go_roundw
            case rel => exact ⟨k + 1, S, G + xc, by omega, by go_num, rfl, rfl, by omega, by omega, by omega, by omega, (by repeat (with_reducible first | assumption | exact Gr.refl _ | apply Gr.alloc | apply Gr.drewN | apply Gr.drew | apply Gr.iter | (refine Gr.setCell ?_ (by simp) _) | (refine Gr.trans ?_ (by assumption)))), HC.out⟩
            case measure => simp [intOf]; omega
          · rw [if_neg (by omega)] at HQ
            simp at hgb hsr
            rw [rlen3 _ _ _ _ (.inr rfl)] at hN'
            subst hN'
            have HC := Lib.hid HQ; clear HQ
            go_wp2
            go_roundw
            case rel => exact ⟨k + 1, S, G + xc, by omega, by go_num, rfl, rfl, by omega, by omega, by omega, by omega, (by repeat (with_reducible first | assumption | exact Gr.refl _ | apply Gr.alloc | apply Gr.drewN | apply Gr.drew | apply Gr.iter | (refine Gr.setCell ?_ (by simp) _) | (refine Gr.trans ?_ (by assumption)))), HC.out⟩
            case measure => simp [intOf]; omega
        · obtain rfl : k = n := by omega
          have hl0 : l.drop k = [] := List.drop_eq_nil_of_le (by rw [hn.out]; exact Nat.le_refl _)
          have hf : S = I := by rw [← Hc.out, hl0]; rfl
          subst hf
          rw [hl0] at hgb hsr
          simp only [sumB, sumR] at hgb hsr
          clear hl0 Hc HI
          go_wp2_with (go_at_call 16; refine (range_any _ _ P Q _ (hE.gr (by repeat (with_reducible first | assumption | exact Gr.refl _ | apply Gr.alloc | apply Gr.drewN | apply Gr.drew | apply Gr.iter | (refine Gr.setCell ?_ (by simp) _) | (refine Gr.trans ?_ (by assumption))))) (hD.gr (by repeat (with_reducible first | assumption | exact Gr.refl _ | apply Gr.alloc | apply Gr.drewN | apply Gr.drew | apply Gr.iter | (refine Gr.setCell ?_ (by simp) _) | (refine Gr.trans ?_ (by assumption))))) h2 hsz.out.1 hsz.out.2.1).mono ?_; rw [ER.out]; rintro e w12 ⟨rfl, hg12⟩; dsimp only; (try rw [errOf_zero]))
          all_goals go_ret
          all_goals exact ⟨rfl, (by repeat (with_reducible first | assumption | exact Gr.refl _ | apply Gr.alloc | apply Gr.drewN | apply Gr.drew | apply Gr.iter | (refine Gr.setCell ?_ (by simp) _) | (refine Gr.trans ?_ (by assumption))))⟩
    · have hpq1 : (P == Q) = false := by simpa using hpq
      have hpq2 : P < Q := by omega
      have o4 := o4 hpq2
      obtain ⟨M, hM⟩ : ∃ M, min Y V = M := ⟨_, rfl⟩
      rw [hM] at ER
      obtain rfl : M = Y := by omega
      clear hpq hM
      go_enter Tryd.func6, Tryd.ntmps6
      go_wp2_with (first
                  | (go_at_call 8; refine (fixed14_any _ (hE.gr (by repeat (with_reducible first | assumption | exact Gr.refl _ | apply Gr.alloc | apply Gr.drewN | apply Gr.drew | apply Gr.iter | (refine Gr.setCell ?_ (by simp) _) | (refine Gr.trans ?_ (by assumption)))))).mono ?_; rintro e w1 ⟨rfl, hg1⟩)
                  | (go_at_call 9; refine (of14_yes l _ _ (hE.gr (by repeat (with_reducible first | assumption | exact Gr.refl _ | apply Gr.alloc | apply Gr.drewN | apply Gr.drew | apply Gr.iter | (refine Gr.setCell ?_ (by simp) _) | (refine Gr.trans ?_ (by assumption))))) (RdOps.gr hl (by repeat (with_reducible first | assumption | exact Gr.refl _ | apply Gr.alloc | apply Gr.drewN | apply Gr.drew | apply Gr.iter | (refine Gr.setCell ?_ (by simp) _) | (refine Gr.trans ?_ (by assumption))))) hT hN HC.out).mono ?_; rintro e w2 ⟨v2, rfl, hd2, hg2⟩; obtain ⟨g1, sl1, hv1, hbr1⟩ := hd2; subst hv1; have hD : DeltaR w2 (.pointer (some ⟨g1, 0, none⟩)) (l.map toPiece) := ⟨g1, sl1, rfl, hbr1⟩; clear hbr1)
                  | (go_at_call 20; (with_reducible refine (at14_any l _ m0 _ (hE.gr (by repeat (with_reducible first | assumption | exact Gr.refl _ | apply Gr.alloc | apply Gr.drewN | apply Gr.drew | apply Gr.iter | (refine Gr.setCell ?_ (by simp) _) | (refine Gr.trans ?_ (by assumption))))) (RdOps.gr hl (by repeat (with_reducible first | assumption | exact Gr.refl _ | apply Gr.alloc | apply Gr.drewN | apply Gr.drew | apply Gr.iter | (refine Gr.setCell ?_ (by simp) _) | (refine Gr.trans ?_ (by assumption))))) HC.out).mono ?_); rw [HP0.out]; rintro e w3 ⟨rfl, hg3⟩)
                  | (go_at_call 20; (with_reducible refine (at14_any l _ n0 _ (hE.gr (by repeat (with_reducible first | assumption | exact Gr.refl _ | apply Gr.alloc | apply Gr.drewN | apply Gr.drew | apply Gr.iter | (refine Gr.setCell ?_ (by simp) _) | (refine Gr.trans ?_ (by assumption))))) (RdOps.gr hl (by repeat (with_reducible first | assumption | exact Gr.refl _ | apply Gr.alloc | apply Gr.drewN | apply Gr.drew | apply Gr.iter | (refine Gr.setCell ?_ (by simp) _) | (refine Gr.trans ?_ (by assumption))))) HC.out).mono ?_); rw [HQ0.out]; rintro e w4 ⟨rfl, hg4⟩)
                  | (go_at_call 11; (with_reducible refine (place_any _ _ P false _ (hE.gr (by repeat (with_reducible first | assumption | exact Gr.refl _ | apply Gr.alloc | apply Gr.drewN | apply Gr.drew | apply Gr.iter | (refine Gr.setCell ?_ (by simp) _) | (refine Gr.trans ?_ (by assumption))))) (hD.gr (by repeat (with_reducible first | assumption | exact Gr.refl _ | apply Gr.alloc | apply Gr.drewN | apply Gr.drew | apply Gr.iter | (refine Gr.setCell ?_ (by simp) _) | (refine Gr.trans ?_ (by assumption))))) h2 hsz.out.1 hsz.out.2.1).mono ?_); rw [H1.out]; rintro e w5 ⟨rfl, hg5⟩; dsimp only; (try rw [errOf_zero]))
                  | (go_at_call 11; (with_reducible refine (place_any _ _ P true _ (hE.gr (by repeat (with_reducible first | assumption | exact Gr.refl _ | apply Gr.alloc | apply Gr.drewN | apply Gr.drew | apply Gr.iter | (refine Gr.setCell ?_ (by simp) _) | (refine Gr.trans ?_ (by assumption))))) (hD.gr (by repeat (with_reducible first | assumption | exact Gr.refl _ | apply Gr.alloc | apply Gr.drewN | apply Gr.drew | apply Gr.iter | (refine Gr.setCell ?_ (by simp) _) | (refine Gr.trans ?_ (by assumption))))) h2 hsz.out.1 hsz.out.2.1).mono ?_); rw [H2.out]; rintro e w6 ⟨rfl, hg6⟩; dsimp only; (try rw [errOf_zero]))
                  | (go_at_call 11; (with_reducible refine (place_any _ _ Q false _ (hE.gr (by repeat (with_reducible first | assumption | exact Gr.refl _ | apply Gr.alloc | apply Gr.drewN | apply Gr.drew | apply Gr.iter | (refine Gr.setCell ?_ (by simp) _) | (refine Gr.trans ?_ (by assumption))))) (hD.gr (by repeat (with_reducible first | assumption | exact Gr.refl _ | apply Gr.alloc | apply Gr.drewN | apply Gr.drew | apply Gr.iter | (refine Gr.setCell ?_ (by simp) _) | (refine Gr.trans ?_ (by assumption))))) h2 hsz.out.1 hsz.out.2.1).mono ?_); rw [H3.out]; rintro e w7 ⟨rfl, hg7⟩; dsimp only; (try rw [errOf_zero]))
                  | (go_at_call 11; (with_reducible refine (place_any _ _ Q true _ (hE.gr (by repeat (with_reducible first | assumption | exact Gr.refl _ | apply Gr.alloc | apply Gr.drewN | apply Gr.drew | apply Gr.iter | (refine Gr.setCell ?_ (by simp) _) | (refine Gr.trans ?_ (by assumption))))) (hD.gr (by repeat (with_reducible first | assumption | exact Gr.refl _ | apply Gr.alloc | apply Gr.drewN | apply Gr.drew | apply Gr.iter | (refine Gr.setCell ?_ (by simp) _) | (refine Gr.trans ?_ (by assumption))))) h2 hsz.out.1 hsz.out.2.1).mono ?_); rw [H4.out]; rintro e w8 ⟨rfl, hg8⟩; dsimp only; (try rw [errOf_zero]))
                  | (go_at_call 24; refine (base_any _ _ _ (hE.gr (by repeat (with_reducible first | assumption | exact Gr.refl _ | apply Gr.alloc | apply Gr.drewN | apply Gr.drew | apply Gr.iter | (refine Gr.setCell ?_ (by simp) _) | (refine Gr.trans ?_ (by assumption))))) (hD.gr (by repeat (with_reducible first | assumption | exact Gr.refl _ | apply Gr.alloc | apply Gr.drewN | apply Gr.drew | apply Gr.iter | (refine Gr.setCell ?_ (by simp) _) | (refine Gr.trans ?_ (by assumption))))) h2 hsz.out.1 hsz.out.2.1).mono ?_; rw [HR.out.1]; rintro e w9 ⟨rfl, hg9⟩)
                  | (go_at_call 26; refine (inserted_any _ _ _ (hE.gr (by repeat (with_reducible first | assumption | exact Gr.refl _ | apply Gr.alloc | apply Gr.drewN | apply Gr.drew | apply Gr.iter | (refine Gr.setCell ?_ (by simp) _) | (refine Gr.trans ?_ (by assumption))))) (hD.gr (by repeat (with_reducible first | assumption | exact Gr.refl _ | apply Gr.alloc | apply Gr.drewN | apply Gr.drew | apply Gr.iter | (refine Gr.setCell ?_ (by simp) _) | (refine Gr.trans ?_ (by assumption))))) h2 hsz.out.1 hsz.out.2.1).mono ?_; rw [HR.out.2]; rintro e w10 ⟨rfl, hg10⟩))
      go_loopw [18, 19, 90] (fun s g i wr => ∃ (k : Nat) (S G : Int), k ≤ n ∧ i = .int .i64 k ∧ s = .int .i64 S ∧ g = .int .i64 G ∧ 0 ≤ G ∧ G + sumB (l.drop k) ≤ 1099511627776 ∧ 0 ≤ S ∧ S + sumR (l.drop k) ≤ 1099511627776 ∧ Gr w2 wr ∧ insO P G S (l.drop k) = I) (fun _ _ i _ => n - (intOf i).toNat)
      case atStart => exact ⟨0, 0, 0, Nat.zero_le _, rfl, rfl, rfl, by omega, by simpa using hsz.out.2.2.1, by omega, by simpa using hsz.out.2.2.2, (by repeat (with_reducible first | assumption | exact Gr.refl _ | apply Gr.alloc | apply Gr.drewN | apply Gr.drew | apply Gr.iter | (refine Gr.setCell ?_ (by simp) _) | (refine Gr.trans ?_ (by assumption)))), HI.out⟩
      case round =>
        obtain ⟨k, S, G, hk, rfl, rfl, rfl, hg0, hgb, hs0, hsr, hg, hc⟩ := hrel
        have Hc := Lib.hid hc; clear hc
        by_cases hlt : k < n
        · obtain ⟨blk, off, xk, xt, xa, xb, xv, xc, ats, sl, hx, rfl, hr, c0, c1, c2, c3, c4, c5, c6, z1, z2⟩ := (RdOps.gr (w := w) (w' := wr) hl (by repeat (with_reducible first | assumption | exact Gr.refl _ | apply Gr.alloc | apply Gr.drewN | apply Gr.drew | apply Gr.iter | (refine Gr.setCell ?_ (by simp) _) | (refine Gr.trans ?_ (by assumption))))).at_ k hlt
          have hck := hok _ (List.mem_of_getElem? hx)
          have hkind := ok_kind hck
          simp only at hkind
          have hbn := sumB_nn (ops_drop hok (k + 1))
          have hrn := sumR_nn (ops_drop hok (k + 1))
          rw [drop_cons hx] at hgb hsr
          simp only [sumB, sumR] at hgb hsr
          obtain ⟨N0, N1⟩ := rlen_bound hck z1
          have HQ := (congrArg (insO P G S) (drop_cons hx)).symm.trans Hc.out
          clear hx hck
          have hlt' : (k : Int) < n := by omega
          simp only [insO, baseO, resO] at HQ hgb hsr
          obtain ⟨N, hN'⟩ : ∃ N, rlen ⟨xk, xt, ⟨xa, xb, xv⟩, xc, ats⟩ = N := ⟨_, rfl⟩
          rw [hN'] at N0 N1 hgb hsr HQ
          have s1 := z1
          obtain ⟨sa, sc, hsl, -⟩ := RdList.slice hr
          subst hsl
          rcases hkind with rfl | rfl | rfl | rfl
          · rw [if_pos (by omega)] at HQ
            simp at hgb hsr
            have HN := Lib.hid hN'; clear hN'
            by_cases h7 : G = P
            · rw [if_pos h7] at HQ
              have HC := Lib.hid HQ; clear HQ
              have h8 : (G == P) = true := by simpa using h7
              have H7 := Lib.hid h7; clear h7
              go_wp2_with (go_at_call 29; refine (rlen_any _ _ _ _ _ _ _ ats _ (RdAttrs.gr (w := wr) hr (by repeat (with_reducible first | assumption | exact Gr.refl _ | apply Gr.alloc | apply Gr.drewN | apply Gr.drew | apply Gr.iter | (refine Gr.setCell ?_ (by simp) _) | (refine Gr.trans ?_ (by assumption))))) s1).mono ?_; rw [HN.out]; rintro e w11 ⟨rfl, hg11⟩)
              go_roundw
              case rel => exact ⟨k + 1, S + N, G, by omega, by go_num, rfl, rfl, by omega, by omega, by omega, by omega, (by repeat (with_reducible first | assumption | exact Gr.refl _ | apply Gr.alloc | apply Gr.drewN | apply Gr.drew | apply Gr.iter | (refine Gr.setCell ?_ (by simp) _) | (refine Gr.trans ?_ (by assumption)))), HC.out⟩
              case measure => simp [intOf]; omega
            · rw [if_neg h7] at HQ
              have HC := Lib.hid HQ; clear HQ
              have h8 : (G == P) = false := by simpa using h7
              clear h7
              go_wp2
              go_roundw
              case rel => exact ⟨k + 1, S, G, by omega, by go_num, rfl, rfl, by omega, by omega, by omega, by omega, (by repeat (with_reducible first | assumption | exact Gr.refl _ | apply Gr.alloc | apply Gr.drewN | apply Gr.drew | apply Gr.iter | (refine Gr.setCell ?_ (by simp) _) | (refine Gr.trans ?_ (by assumption)))), HC.out⟩
              case measure => simp [intOf]; omega
          · rw [if_pos (by omega)] at HQ
            simp at hgb hsr
            have HN := Lib.hid hN'; clear hN'
            by_cases h7 : G = P
            · rw [if_pos h7] at HQ
              have HC := Lib.hid HQ; clear HQ
              have h8 : (G == P) = true := by simpa using h7
              have H7 := Lib.hid h7; clear h7
              go_wp2_with (go_at_call 29; refine (rlen_any _ _ _ _ _ _ _ ats _ (RdAttrs.gr (w := wr) hr (by repeat (with_reducible first | assumption | exact Gr.refl _ | apply Gr.alloc | apply Gr.drewN | apply Gr.drew | apply Gr.iter | (refine Gr.setCell ?_ (by simp) _) | (refine Gr.trans ?_ (by assumption))))) s1).mono ?_; rw [HN.out]; rintro e w11 ⟨rfl, hg11⟩)
              go_roundw
              case rel => exact ⟨k + 1, S + N, G, by omega, by go_num, rfl, rfl, by omega, by omega, by omega, by omega, (by repeat (with_reducible first | assumption | exact Gr.refl _ | apply Gr.alloc | apply Gr.drewN | apply Gr.drew | apply Gr.iter | (refine Gr.setCell ?_ (by simp) _) | (refine Gr.trans ?_ (by assumption)))), HC.out⟩
              case measure => simp [intOf]; omega
            · rw [if_neg h7] at HQ
              have HC := Lib.hid HQ; clear HQ
              have h8 : (G == P) = false := by simpa using h7
              clear h7
              go_wp2
              go_roundw
              case rel => exact ⟨k + 1, S, G, by omega, by go_num, rfl, rfl, by omega, by omega, by omega, by omega, (by repeat (with_reducible first | assumption | exact Gr.refl _ | apply Gr.alloc | apply Gr.drewN | apply Gr.drew | apply Gr.iter | (refine Gr.setCell ?_ (by simp) _) | (refine Gr.trans ?_ (by assumption)))), HC.out⟩
              case measure => simp [intOf]; omega
          · rw [if_neg (by omega)] at HQ
            simp at hgb hsr
            rw [rlen3 _ _ _ _ (.inl rfl)] at hN'
            subst hN'
            have HC := Lib.hid HQ; clear HQ
            go_wp2
            go_roundw
            case rel => exact ⟨k + 1, S, G + xc, by omega, by go_num, rfl, rfl, by omega, by omega, by omega, by omega, (by repeat (with_reducible first | assumption | exact Gr.refl _ | apply Gr.alloc | apply Gr.drewN | apply Gr.drew | apply Gr.iter | (refine Gr.setCell ?_ (by simp) _) | (refine Gr.trans ?_ (by assumption)))), HC.out⟩
            case measure => simp [intOf]; omega
          · rw [if_neg (by omega)] at HQ
            simp at hgb hsr
            rw [rlen3 _ _ _ _ (.inr rfl)] at hN'
            subst hN'
            have HC := Lib.hid HQ; clear HQ
            go_wp2
            go_roundw
            case rel => exact ⟨k + 1, S, G + xc, by omega, by go_num, rfl, rfl, by omega, by omega, by omega, by omega, (by repeat (with_reducible first | assumption | exact Gr.refl _ | apply Gr.alloc | apply Gr.drewN | apply Gr.drew | apply Gr.iter | (refine Gr.setCell ?_ (by simp) _) | (refine Gr.trans ?_ (by assumption)))), HC.out⟩
            case measure => simp [intOf]; omega
        · obtain rfl : k = n := by omega
          have hl0 : l.drop k = [] := List.drop_eq_nil_of_le (by rw [hn.out]; exact Nat.le_refl _)
          have hf : S = I := by rw [← Hc.out, hl0]; rfl
          subst hf
          rw [hl0] at hgb hsr
          simp only [sumB, sumR] at hgb hsr
          clear hl0 Hc HI
          go_wp2_with (go_at_call 16; refine (range_any _ _ P Q _ (hE.gr (by repeat (with_reducible first | assumption | exact Gr.refl _ | apply Gr.alloc | apply Gr.drewN | apply Gr.drew | apply Gr.iter | (refine Gr.setCell ?_ (by simp) _) | (refine Gr.trans ?_ (by assumption))))) (hD.gr (by repeat (with_reducible first | assumption | exact Gr.refl _ | apply Gr.alloc | apply Gr.drewN | apply Gr.drew | apply Gr.iter | (refine Gr.setCell ?_ (by simp) _) | (refine Gr.trans ?_ (by assumption))))) h2 hsz.out.1 hsz.out.2.1).mono ?_; rw [ER.out]; rintro e w12 ⟨rfl, hg12⟩; dsimp only; (try rw [errOf_zero]))
          all_goals go_ret
          all_goals exact ⟨rfl, (by repeat (with_reducible first | assumption | exact Gr.refl _ | apply Gr.alloc | apply Gr.drewN | apply Gr.drew | apply Gr.iter | (refine Gr.setCell ?_ (by simp) _) | (refine Gr.trans ?_ (by assumption))))⟩
end Ve
