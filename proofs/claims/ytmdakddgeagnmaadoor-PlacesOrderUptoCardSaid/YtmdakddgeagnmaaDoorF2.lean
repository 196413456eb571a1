/- The law PlacesPlays. -/
import Derived.Test.YtmdakddgeagnmaaDoorF1
set_option linter.all false
namespace Ve
open Go Go.RowKit Go.Proofs

theorem placeP_code (ps : List Piece) (p : Int) (b : Bool) : 0 ≤ (placeP ps p b).2 ∧ (placeP ps p b).2 ≤ 19 := by
  unfold placeP
  split
  · split <;> simp
  · simp
theorem backAt_code (ps : List Piece) (p : Int) : 0 ≤ (backAt ps p).2 ∧ (backAt ps p).2 ≤ 19 := by
  unfold backAt
  split
  · split <;> simp
  · simp
theorem rangeP_code (ps : List Piece) (p q : Int) : 0 ≤ (rangeP ps p q).2.2 ∧ (rangeP ps p q).2.2 ≤ 19 := by
  unfold rangeP
  split
  · simp
  · split <;> simp
set_option maxRecDepth 20000 in
set_option maxHeartbeats 8000000 in
theorem placesPlays_any {ea : Nat → Addr} (l : List Op) (v : Value) (p q : Int) (behind : Bool) (w : World) (hE : Env19 ea w) (hl : RdOps w v l) (hT : opsum l ≤ 1099511627776) (hN : 2 * l.length + 2 ≤ 1099511627776) :
    Calls Tryd.prog 3 #[v, .int .i64 p, .int .i64 q, .bool behind] w fun e w' => e = .returned (.bool true) ∧ Gr w w' := by
  obtain ⟨a, n, cap, rfl, -, -, hnb, hn⟩ := hl.sl
  cases hc : canonL l with
  | false =>
    have HC := Lib.hid hc; clear hc
    go_enter Tryd.func3, Tryd.ntmps3
    go_wp2_with (first
      | (go_at_call 8; refine (fixed14_any _ (hE.env.gr (by repeat (with_reducible first | assumption | exact Gr.refl _ | apply Gr.alloc | apply Gr.drewN | apply Gr.drew | apply Gr.iter | (refine Gr.setCell ?_ (by simp) _) | (refine Gr.trans ?_ (by assumption)))))).mono ?_; rintro e w1 ⟨rfl, hg1⟩)
      | (go_at_call 9; refine (of14_no l _ _ (hE.env.gr (by repeat (with_reducible first | assumption | exact Gr.refl _ | apply Gr.alloc | apply Gr.drewN | apply Gr.drew | apply Gr.iter | (refine Gr.setCell ?_ (by simp) _) | (refine Gr.trans ?_ (by assumption))))) (RdOps.gr hl (by repeat (with_reducible first | assumption | exact Gr.refl _ | apply Gr.alloc | apply Gr.drewN | apply Gr.drew | apply Gr.iter | (refine Gr.setCell ?_ (by simp) _) | (refine Gr.trans ?_ (by assumption))))) HC.out).mono ?_; rintro e w2 ⟨rfl, hg2⟩)
      | (go_at_call 10; refine (rcanon_any l _ _ (hE.env.gr (by repeat (with_reducible first | assumption | exact Gr.refl _ | apply Gr.alloc | apply Gr.drewN | apply Gr.drew | apply Gr.iter | (refine Gr.setCell ?_ (by simp) _) | (refine Gr.trans ?_ (by assumption))))) (RdOps.gr hl (by repeat (with_reducible first | assumption | exact Gr.refl _ | apply Gr.alloc | apply Gr.drewN | apply Gr.drew | apply Gr.iter | (refine Gr.setCell ?_ (by simp) _) | (refine Gr.trans ?_ (by assumption)))))).mono ?_; rw [HC.out]; rintro e w3 ⟨rfl, hg3⟩))
    go_ret
    exact ⟨rfl, (by repeat (with_reducible first | assumption | exact Gr.refl _ | apply Gr.alloc | apply Gr.drewN | apply Gr.drew | apply Gr.iter | (refine Gr.setCell ?_ (by simp) _) | (refine Gr.trans ?_ (by assumption))))⟩
  | true =>
    obtain ⟨hok, h2, h3, h4, h5⟩ := canon_ok hc
    obtain ⟨s1, s2, -⟩ := canon_sums hc
    have HC := Lib.hid hc; clear hc
    have k1 := placeP_code (l.map toPiece) p behind
    have k2 := backAt_code (l.map toPiece) p
    have k3 := rangeP_code (l.map toPiece) p q
    obtain ⟨⟨x1, c1⟩, e1⟩ : ∃ r, placeP (l.map toPiece) p behind = r := ⟨_, rfl⟩
    obtain ⟨⟨x2, c2⟩, e2⟩ : ∃ r, backAt (l.map toPiece) p = r := ⟨_, rfl⟩
    obtain ⟨⟨x3, y3, c3⟩, e3⟩ : ∃ r, rangeP (l.map toPiece) p q = r := ⟨_, rfl⟩
    rw [e1] at k1
    rw [e2] at k2
    rw [e3] at k3
    have k1 := Lib.hid k1
    have k2 := Lib.hid k2
    have k3 := Lib.hid k3
    have E := Lib.hid (And.intro e1 (And.intro e2 e3)); clear e1 e2 e3
    have hsz := Lib.hid (And.intro h3 (And.intro h4 (And.intro s1 s2))); clear h3 h4 s1 s2
    have h5 := Lib.hid h5
    have hnb' : l.length ≤ 1099511627776 := by rw [hn.out]; exact hnb
    have hnb' := Lib.hid hnb'
    go_enter Tryd.func3, Tryd.ntmps3
    go_wp2_with (first
      | (go_at_call 8; refine (fixed14_any _ (hE.env.gr (by repeat (with_reducible first | assumption | exact Gr.refl _ | apply Gr.alloc | apply Gr.drewN | apply Gr.drew | apply Gr.iter | (refine Gr.setCell ?_ (by simp) _) | (refine Gr.trans ?_ (by assumption)))))).mono ?_; rintro e w1 ⟨rfl, hg1⟩)
      | (go_at_call 9; refine (of14_yes l _ _ (hE.env.gr (by repeat (with_reducible first | assumption | exact Gr.refl _ | apply Gr.alloc | apply Gr.drewN | apply Gr.drew | apply Gr.iter | (refine Gr.setCell ?_ (by simp) _) | (refine Gr.trans ?_ (by assumption))))) (RdOps.gr hl (by repeat (with_reducible first | assumption | exact Gr.refl _ | apply Gr.alloc | apply Gr.drewN | apply Gr.drew | apply Gr.iter | (refine Gr.setCell ?_ (by simp) _) | (refine Gr.trans ?_ (by assumption))))) hT hN HC.out).mono ?_; rintro e w2 ⟨v2, rfl, hd2, hg2⟩; obtain ⟨g1, sl1, hv1, hbr1⟩ := hd2; subst hv1; have hD : DeltaR w2 (.pointer (some ⟨g1, 0, none⟩)) (l.map toPiece) := ⟨g1, sl1, rfl, hbr1⟩; clear hbr1)
      | (go_at_call 11; refine (place_any _ _ p behind _ (hE.env.gr (by repeat (with_reducible first | assumption | exact Gr.refl _ | apply Gr.alloc | apply Gr.drewN | apply Gr.drew | apply Gr.iter | (refine Gr.setCell ?_ (by simp) _) | (refine Gr.trans ?_ (by assumption))))) (hD.gr (by repeat (with_reducible first | assumption | exact Gr.refl _ | apply Gr.alloc | apply Gr.drewN | apply Gr.drew | apply Gr.iter | (refine Gr.setCell ?_ (by simp) _) | (refine Gr.trans ?_ (by assumption))))) h2 hsz.out.1 hsz.out.2.1).mono ?_; rw [E.out.1]; rintro e w3 ⟨rfl, hg3⟩)
      | (go_at_call 12; refine (rplace_any l _ p behind _ (RdOps.gr hl (by repeat (with_reducible first | assumption | exact Gr.refl _ | apply Gr.alloc | apply Gr.drewN | apply Gr.drew | apply Gr.iter | (refine Gr.setCell ?_ (by simp) _) | (refine Gr.trans ?_ (by assumption))))) hok hsz.out.2.2.1 hsz.out.2.2.2).mono ?_; rw [E.out.1]; rintro e w4 ⟨rfl, hg4⟩)
      | (go_at_call 14; refine (backAt_any _ _ p _ (hE.env.gr (by repeat (with_reducible first | assumption | exact Gr.refl _ | apply Gr.alloc | apply Gr.drewN | apply Gr.drew | apply Gr.iter | (refine Gr.setCell ?_ (by simp) _) | (refine Gr.trans ?_ (by assumption))))) (hD.gr (by repeat (with_reducible first | assumption | exact Gr.refl _ | apply Gr.alloc | apply Gr.drewN | apply Gr.drew | apply Gr.iter | (refine Gr.setCell ?_ (by simp) _) | (refine Gr.trans ?_ (by assumption))))) h2 hsz.out.1 hsz.out.2.1).mono ?_; rw [E.out.2.1]; rintro e w6 ⟨rfl, hg6⟩)
      | (go_at_call 15; refine (rback_any l _ p _ (RdOps.gr hl (by repeat (with_reducible first | assumption | exact Gr.refl _ | apply Gr.alloc | apply Gr.drewN | apply Gr.drew | apply Gr.iter | (refine Gr.setCell ?_ (by simp) _) | (refine Gr.trans ?_ (by assumption))))) hok hsz.out.2.2.1 hsz.out.2.2.2).mono ?_; rw [E.out.2.1]; rintro e w7 ⟨rfl, hg7⟩)
      | (go_at_call 16; refine (range_any _ _ p q _ (hE.env.gr (by repeat (with_reducible first | assumption | exact Gr.refl _ | apply Gr.alloc | apply Gr.drewN | apply Gr.drew | apply Gr.iter | (refine Gr.setCell ?_ (by simp) _) | (refine Gr.trans ?_ (by assumption))))) (hD.gr (by repeat (with_reducible first | assumption | exact Gr.refl _ | apply Gr.alloc | apply Gr.drewN | apply Gr.drew | apply Gr.iter | (refine Gr.setCell ?_ (by simp) _) | (refine Gr.trans ?_ (by assumption))))) h2 hsz.out.1 hsz.out.2.1).mono ?_; rw [E.out.2.2]; rintro e w9 ⟨rfl, hg9⟩)
      | (go_at_call 17; refine (rrange_any l _ p q _ (RdOps.gr hl (by repeat (with_reducible first | assumption | exact Gr.refl _ | apply Gr.alloc | apply Gr.drewN | apply Gr.drew | apply Gr.iter | (refine Gr.setCell ?_ (by simp) _) | (refine Gr.trans ?_ (by assumption))))) hok hsz.out.2.2.1 hsz.out.2.2.2).mono ?_; rw [E.out.2.2]; rintro e w10 ⟨rfl, hg10⟩)
      | (go_at_call 13; (with_reducible refine (num_any c1 _ (hE.gr (by repeat (with_reducible first | assumption | exact Gr.refl _ | apply Gr.alloc | apply Gr.drewN | apply Gr.drew | apply Gr.iter | (refine Gr.setCell ?_ (by simp) _) | (refine Gr.trans ?_ (by assumption))))) k1.out.1 k1.out.2).mono ?_); rintro e w5 ⟨rfl, hg5⟩)
      | (go_at_call 13; (with_reducible refine (num_any c2 _ (hE.gr (by repeat (with_reducible first | assumption | exact Gr.refl _ | apply Gr.alloc | apply Gr.drewN | apply Gr.drew | apply Gr.iter | (refine Gr.setCell ?_ (by simp) _) | (refine Gr.trans ?_ (by assumption))))) k2.out.1 k2.out.2).mono ?_); rintro e w8 ⟨rfl, hg8⟩)
      | (go_at_call 13; (with_reducible refine (num_any c3 _ (hE.gr (by repeat (with_reducible first | assumption | exact Gr.refl _ | apply Gr.alloc | apply Gr.drewN | apply Gr.drew | apply Gr.iter | (refine Gr.setCell ?_ (by simp) _) | (refine Gr.trans ?_ (by assumption))))) k3.out.1 k3.out.2).mono ?_); rintro e w11 ⟨rfl, hg11⟩)
      | (go_at_call 19; refine (dops_any _ _ _ (hD.gr (by repeat (with_reducible first | assumption | exact Gr.refl _ | apply Gr.alloc | apply Gr.drewN | apply Gr.drew | apply Gr.iter | (refine Gr.setCell ?_ (by simp) _) | (refine Gr.trans ?_ (by assumption))))) h2.good).mono ?_; rw [h5.out]; rintro e w12 ⟨v12, rfl, ho12, hg12⟩; have hR12 := OwnOps.rd ho12 hnb'.out; obtain ⟨a12, n12, c12, rfl, -⟩ := ho12.sl)
      | (go_at_call 18; refine (rsame_any l l _ _ _ (RdOps.gr hR12 (by repeat (with_reducible first | assumption | exact Gr.refl _ | apply Gr.alloc | apply Gr.drewN | apply Gr.drew | apply Gr.iter | (refine Gr.setCell ?_ (by simp) _) | (refine Gr.trans ?_ (by assumption))))) (RdOps.gr hl (by repeat (with_reducible first | assumption | exact Gr.refl _ | apply Gr.alloc | apply Gr.drewN | apply Gr.drew | apply Gr.iter | (refine Gr.setCell ?_ (by simp) _) | (refine Gr.trans ?_ (by assumption)))))).mono ?_; rw [decide_eq_true (rfl : l = l)]; rintro e w13 ⟨rfl, hg13⟩))
    all_goals go_ret
    all_goals exact ⟨rfl, (by repeat (with_reducible first | assumption | exact Gr.refl _ | apply Gr.alloc | apply Gr.drewN | apply Gr.drew | apply Gr.iter | (refine Gr.setCell ?_ (by simp) _) | (refine Gr.trans ?_ (by assumption))))⟩
end Ve
