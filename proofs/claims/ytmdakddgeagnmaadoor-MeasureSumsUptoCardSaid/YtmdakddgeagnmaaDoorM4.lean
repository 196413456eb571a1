/- Document, Builder.Retain, Delta.Count, Shift; vellumlaw08.is, of. -/
import Derived.Test.YtmdakddgeagnmaaDoorM3
import Derived.Test.YtmdakddgeagnmaaDoorF1
set_option linter.all false
namespace Ve
open Go Go.RowKit Go.Proofs

set_option maxHeartbeats 400000 in
theorem document_any {ea : Nat → Addr} (ps : List Piece) (v : Value) (w : World) (hE : Env ea w) (hD : DeltaR w v ps) (hok : PsOk ps) (hb : bsum ps ≤ 1099511627776) (hr : rsum ps ≤ 1099511627776) :
    Calls Tryd.prog 28 #[v] w fun e w' => e = .returned (.bool (bsum ps == 0)) ∧ Gr w w' := by
  obtain ⟨g, sl, rfl, hBD, hrd⟩ := hD
  have hD : DeltaR w (.pointer (some ⟨g, 0, none⟩)) ps := ⟨g, sl, rfl, hBD, hrd⟩
  clear hBD hrd
  have HB := Lib.hid (And.intro hb hr)
  obtain ⟨B, hB⟩ : ∃ B, bsum ps = B := ⟨_, rfl⟩
  rw [hB]
  have H := Lib.hid hB; clear hB hb hr
  go_enter Tryd.func28, Tryd.ntmps28
  go_wp2_with (go_at_call 24; refine (base_any ps _ _ (hE.gr (by repeat (with_reducible first | assumption | exact Gr.refl _ | apply Gr.alloc | apply Gr.drewN | apply Gr.drew | apply Gr.iter | (refine Gr.setCell ?_ (by simp) _) | (refine Gr.trans ?_ (by assumption))))) (hD.gr (by repeat (with_reducible first | assumption | exact Gr.refl _ | apply Gr.alloc | apply Gr.drewN | apply Gr.drew | apply Gr.iter | (refine Gr.setCell ?_ (by simp) _) | (refine Gr.trans ?_ (by assumption))))) hok HB.out.1 HB.out.2).mono ?_; rw [H.out]; rintro e w1 ⟨rfl, hg1⟩)
  go_ret
  exact ⟨rfl, (by repeat (with_reducible first | assumption | exact Gr.refl _ | apply Gr.alloc | apply Gr.drewN | apply Gr.drew | apply Gr.iter | (refine Gr.setCell ?_ (by simp) _) | (refine Gr.trans ?_ (by assumption))))⟩
theorem dcount_any (ps : List Piece) (v : Value) (w : World) (hD : DeltaR w v ps) : Calls Tryd.prog 53 #[v] w fun e w' => e = .returned (.int .i64 ps.length) ∧ Gr w w' := by
  obtain ⟨g, sl, rfl, hB, hr⟩ := hD
  obtain ⟨a, n, cap, rfl, h1, h2, h3, h4⟩ := hr.sl
  have b0 := hB.cell
  rw [h4.out]
  go_enter Tryd.func53, Tryd.ntmps53
  go_wp2
  go_ret
  exact ⟨rfl, (by repeat (with_reducible first | assumption | exact Gr.refl _ | apply Gr.alloc | apply Gr.drewN | apply Gr.drew | apply Gr.iter | (refine Gr.setCell ?_ (by simp) _) | (refine Gr.trans ?_ (by assumption))))⟩
set_option maxHeartbeats 400000 in
theorem bretain_any {ea : Nat → Addr} (base g : Nat) (s : Bld) (n : Int) (w w0 : World) (hE : Env ea w0) (h0w : Gr w0 w) (hbase : w0.heap.size ≤ base)
    (hB : BldR base w g s) (h1 : 0 ≤ s.base) (h2 : s.base ≤ 1099511627776) (h3 : 0 ≤ s.result) (h4 : s.result ≤ 1099511627776) (h5 : 0 ≤ s.gone) (h6 : s.gone ≤ 1099511627776) (hm : s.pieces.length + 2 ≤ 1099511627776)
    (hj : checkOp ⟨3, es, ep, n, []⟩ = 0 → s.fits (toPiece ⟨3, es, ep, n, []⟩) = true → JoinOk s.pieces (toPiece ⟨3, es, ep, n, []⟩)) :
    Calls Tryd.prog 54 #[.pointer (some ⟨g, 0, none⟩), .int .i64 n, .slice none 0 0] w fun e w' =>
      e = .returned (errOf ea (s.push ⟨3, es, ep, n, []⟩).2) ∧ Kg base bldT w w' ∧ BldR base w' g (s.push ⟨3, es, ep, n, []⟩).1 := by
  obtain ⟨R, hR⟩ : ∃ R, s.push ⟨3, es, ep, n, []⟩ = R := ⟨_, rfl⟩
  rw [hR]
  have HR := Lib.hid hR; clear hR
  have HJ := Lib.hid hj; clear hj
  have HB := Lib.hid hB; clear hB
  go_enter Tryd.func54, Tryd.ntmps54
  go_wp2_with (go_at_call 47; refine (push_any base g s 3 es 0 0 es n (.slice none 0 0) [] _ w0 hE (by repeat (with_reducible first | assumption | exact Gr.refl _ | apply Gr.alloc | apply Gr.drewN | apply Gr.drew | apply Gr.iter | (refine Gr.setCell ?_ (by simp) _) | (refine Gr.trans ?_ (by assumption)))) hbase (RdList.nil ..) (by simp only [szS]; decide) (by simp only [szS]; decide) (BldR.gr (w := w) HB.out (by repeat (with_reducible first | assumption | exact Gr.refl _ | apply Gr.alloc | apply Gr.drewN | apply Gr.drew | apply Gr.iter | (refine Gr.setCell ?_ (by simp) _) | (refine Gr.trans ?_ (by assumption))))) h1 h2 h3 h4 h5 h6 hm HJ.out).mono ?_; rw [show (⟨3, es, ⟨0, 0, es⟩, n, []⟩ : Op) = ⟨3, es, ep, n, []⟩ from rfl, HR.out]; rintro e w1 ⟨rfl, hk1, hB1⟩)
  go_ret
  exact ⟨rfl, by (repeat (with_reducible first | exact Kg.refl _ | assumption | refine Kg.alloc ?_ _ | refine Kg.drewN ?_ _ | refine Kg.drew ?_ | (refine Kg.setB (e := 102) ?_ (by (repeat (with_reducible first | assumption | (apply Blk.bt; assumption) | (refine BT.set ?_ _ _) | (refine BT.far ?_ (by simp; omega) _) | refine BT.alloc ?_ _ | refine BT.drewN ?_ _ | refine BT.drew ?_ | (refine BT.gr ?_ (by assumption))))) (by decide) (by assumption) _ _) | (refine Kg.setNew ?_ (by simp; omega) _) | (refine Kg.trans_gr ?_ (by assumption)) | (refine Kg.trans ?_ (by assumption)))), hB1⟩
set_option maxHeartbeats 400000 in
theorem is08_any (ps : List Piece) (l : List Op) (v vl : Value) (w : World) (hD : DeltaR w v ps) (hgood : ∀ p ∈ ps, p.good) (hl : RdOps w vl l) :
    Calls Tryd.prog 43 #[v, vl] w fun e w' => e = .returned (.bool (decide (ps.map Piece.op = l))) ∧ Gr w w' := by
  have hlen := hD.short
  obtain ⟨g, sl, rfl, hB, hr⟩ := hD
  have hD : DeltaR w (.pointer (some ⟨g, 0, none⟩)) ps := ⟨g, sl, rfl, hB, hr⟩
  obtain ⟨al, nl, cl, rfl, -, -, -, -⟩ := hl.sl
  obtain ⟨L, hL⟩ : ∃ L, ps.map Piece.op = L := ⟨_, rfl⟩
  have hLl : L.length ≤ 1099511627776 := by rw [← hL]; simpa using hlen
  rw [hL]
  have HL := Lib.hid (And.intro hL hLl); clear hL hLl hB hr
  go_enter Tryd.func43, Tryd.ntmps43
  go_wp2_with (first
    | (go_at_call 19; refine (dops_any _ _ _ (hD.gr (by repeat (with_reducible first | assumption | exact Gr.refl _ | apply Gr.alloc | apply Gr.drewN | apply Gr.drew | apply Gr.iter | (refine Gr.setCell ?_ (by simp) _) | (refine Gr.trans ?_ (by assumption))))) hgood).mono ?_; rw [HL.out.1]; rintro e w1 ⟨v1, rfl, ho1, hg1⟩; have hR1 := OwnOps.rd ho1 HL.out.2; obtain ⟨a1, n1, c1, rfl, -⟩ := ho1.sl)
    | (go_at_call 18; refine (rsame_any L l _ _ _ (RdOps.gr hR1 (by repeat (with_reducible first | assumption | exact Gr.refl _ | apply Gr.alloc | apply Gr.drewN | apply Gr.drew | apply Gr.iter | (refine Gr.setCell ?_ (by simp) _) | (refine Gr.trans ?_ (by assumption))))) (RdOps.gr hl (by repeat (with_reducible first | assumption | exact Gr.refl _ | apply Gr.alloc | apply Gr.drewN | apply Gr.drew | apply Gr.iter | (refine Gr.setCell ?_ (by simp) _) | (refine Gr.trans ?_ (by assumption)))))).mono ?_; rintro e w2 ⟨rfl, hg2⟩))
  go_ret
  exact ⟨rfl, (by repeat (with_reducible first | assumption | exact Gr.refl _ | apply Gr.alloc | apply Gr.drewN | apply Gr.drew | apply Gr.iter | (refine Gr.setCell ?_ (by simp) _) | (refine Gr.trans ?_ (by assumption))))⟩
set_option maxHeartbeats 1000000 in
theorem of08_yes {ea : Nat → Addr} (l : List Op) (v : Value) (w : World) (hE : Env ea w) (hl : RdOps w v l) (hT : opsum l ≤ 1099511627776) (hN : 2 * l.length + 2 ≤ 1099511627776) (hc : canonL l = true) :
    Calls Tryd.prog 23 #[v] w fun e w' => ∃ v', e = .returned v' ∧ DeltaR w' v' (l.map toPiece) ∧ Gr w w' := by
  obtain ⟨a, n, cap, rfl, -, -, -, -⟩ := hl.sl
  obtain ⟨s, hs, hd⟩ := canon_push hc
  have HS := Lib.hid (And.intro hs hd); clear hs hd
  have HC := Lib.hid hc; clear hc
  go_enter Tryd.func23, Tryd.ntmps23
  go_wp2_with (first
    | (go_at_call 10; refine (rcanon_any l _ _ (hE.gr (by repeat (with_reducible first | assumption | exact Gr.refl _ | apply Gr.alloc | apply Gr.drewN | apply Gr.drew | apply Gr.iter | (refine Gr.setCell ?_ (by simp) _) | (refine Gr.trans ?_ (by assumption))))) (RdOps.gr hl (by repeat (with_reducible first | assumption | exact Gr.refl _ | apply Gr.alloc | apply Gr.drewN | apply Gr.drew | apply Gr.iter | (refine Gr.setCell ?_ (by simp) _) | (refine Gr.trans ?_ (by assumption)))))).mono ?_; rw [HC.out]; rintro e w1 ⟨rfl, hg1⟩)
    | (go_at_call 30; refine (bof_any l _ _ (hE.gr (by repeat (with_reducible first | assumption | exact Gr.refl _ | apply Gr.alloc | apply Gr.drewN | apply Gr.drew | apply Gr.iter | (refine Gr.setCell ?_ (by simp) _) | (refine Gr.trans ?_ (by assumption))))) (RdOps.gr hl (by repeat (with_reducible first | assumption | exact Gr.refl _ | apply Gr.alloc | apply Gr.drewN | apply Gr.drew | apply Gr.iter | (refine Gr.setCell ?_ (by simp) _) | (refine Gr.trans ?_ (by assumption))))) hT hN).mono ?_; rw [HS.out.1]; rintro e w2 ⟨v2, rfl, hg2, hd2, -⟩; have hd2 := hd2 rfl; rw [HS.out.2] at hd2; obtain ⟨g2, sl2, hv2, hbr2⟩ := hd2; subst hv2; dsimp only; rw [errOf_zero]))
  go_ret
  exact ⟨_, rfl, DeltaR.gr (w := w2) ⟨g2, sl2, rfl, hbr2⟩ (by repeat (with_reducible first | assumption | exact Gr.refl _ | apply Gr.alloc | apply Gr.drewN | apply Gr.drew | apply Gr.iter | (refine Gr.setCell ?_ (by simp) _) | (refine Gr.trans ?_ (by assumption)))), (by repeat (with_reducible first | assumption | exact Gr.refl _ | apply Gr.alloc | apply Gr.drewN | apply Gr.drew | apply Gr.iter | (refine Gr.setCell ?_ (by simp) _) | (refine Gr.trans ?_ (by assumption))))⟩
set_option maxHeartbeats 1000000 in
theorem of08_no {ea : Nat → Addr} (l : List Op) (v : Value) (w : World) (hE : Env ea w) (hl : RdOps w v l) (hc : canonL l = false) :
    Calls Tryd.prog 23 #[v] w fun e w' => e = .returned (.pointer none) ∧ Gr w w' := by
  obtain ⟨a, n, cap, rfl, -, -, -, -⟩ := hl.sl
  have HC := Lib.hid hc; clear hc
  go_enter Tryd.func23, Tryd.ntmps23
  go_wp2_with (go_at_call 10; refine (rcanon_any l _ _ (hE.gr (by repeat (with_reducible first | assumption | exact Gr.refl _ | apply Gr.alloc | apply Gr.drewN | apply Gr.drew | apply Gr.iter | (refine Gr.setCell ?_ (by simp) _) | (refine Gr.trans ?_ (by assumption))))) (RdOps.gr hl (by repeat (with_reducible first | assumption | exact Gr.refl _ | apply Gr.alloc | apply Gr.drewN | apply Gr.drew | apply Gr.iter | (refine Gr.setCell ?_ (by simp) _) | (refine Gr.trans ?_ (by assumption)))))).mono ?_; rw [HC.out]; rintro e w1 ⟨rfl, hg1⟩)
  go_ret
  exact ⟨rfl, (by repeat (with_reducible first | assumption | exact Gr.refl _ | apply Gr.alloc | apply Gr.drewN | apply Gr.drew | apply Gr.iter | (refine Gr.setCell ?_ (by simp) _) | (refine Gr.trans ?_ (by assumption))))⟩
end Ve
