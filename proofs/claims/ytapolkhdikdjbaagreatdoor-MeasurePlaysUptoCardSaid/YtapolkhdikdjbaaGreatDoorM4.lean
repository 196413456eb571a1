/- measure.push, Concat, Shift; Document; Builder.Retain; Delta.Count. -/
import Derived.Test.YtapolkhdikdjbaaGreatDoorM2
import Derived.Test.YtapolkhdikdjbaaGreatDoorB7
import Derived.Test.YtapolkhdikdjbaaGreatDoorL0
set_option linter.all false
namespace Ve
open Go Go.RowKit Go.Proofs

set_option maxHeartbeats 2000000 in
theorem mpush_any {ea : Nat → Addr} (base g : Nat) (s : Bld) (T0 N0 : Nat) (ps : List Piece) (L : List Op) (v : Value) (w w0 : World) (hE : Env ea w0) (h0w : Gr w0 w) (hbase : w0.heap.size ≤ base) (hD : DeltaR w v ps) (hgood : ∀ p ∈ ps, p.good) (hL : ps.map Piece.op = L)
    (hB : BldR base w g s) (hI : s.Inv T0 N0) (hT : T0 + opsum L ≤ 1099511627776) (hN : 2 * (N0 + L.length) + 2 ≤ 1099511627776) :
    Calls Tryz.prog 116 #[.pointer (some ⟨g, 0, none⟩), v] w fun e w' => e = .returned (errOf ea (pushFrom s 0 L).2.2) ∧ Kg (Fr base) bldT w w' ∧ ((pushFrom s 0 L).2.2 = 0 → BldR base w' g (pushFrom s 0 L).1 ∧ (pushFrom s 0 L).1.Inv (T0 + opsum L) (N0 + L.length)) := by
  obtain ⟨R, hR⟩ : ∃ R, pushFrom s 0 L = R := ⟨_, rfl⟩
  rw [hR]
  have HR := Lib.hid hR; clear hR
  have HL := Lib.hid hL; clear hL
  have HT := Lib.hid hT; clear hT
  have hlen : L.length ≤ 1099511627776 := by omega
  have HN := Lib.hid hN; clear hN
  have HI0 := Lib.hid hI; clear hI
  have HB0 := Lib.hid hB; clear hB
  obtain ⟨gd, sld, rfl, hBD, hrd⟩ := hD
  have hD : DeltaR w (.pointer (some ⟨gd, 0, none⟩)) ps := ⟨gd, sld, rfl, hBD, hrd⟩
  clear hBD hrd
  go_enter Tryz.func116, Tryz.ntmps116
  go_wp2_with (go_at_call 36; refine (dops_any _ _ _ (hD.gr (by repeat (with_reducible first | assumption | exact Gr.refl _ | apply Gr.alloc | apply Gr.drewN | apply Gr.drew | apply Gr.iter | (refine Gr.setCell ?_ (by simp) _) | (refine Gr.trans ?_ (by assumption))))) hgood).mono ?_; rw [HL.out]; rintro e w1 ⟨v1, rfl, ho1, hg1⟩; obtain ⟨a1, n, c1, rfl, hn1, hn2, hn3⟩ := ho1.sl)
  go_loopw [11] (fun i wr => ∃ (k : Nat) (s' : Bld), k ≤ n ∧ i = .int .i64 k ∧ Kg (Fr base) bldT w1 wr ∧ BldR base wr g s' ∧ pushFrom s' k (L.drop k) = R ∧ s'.Inv (T0 + opsum (L.take k)) (N0 + k)) (fun i _ => n - (intOf i).toNat)
  case atStart => exact ⟨0, s, Nat.zero_le _, rfl, Kg.refl _, BldR.gr (w := w) HB0.out hg1, HR.out, HI0.out⟩
  case round =>
    obtain ⟨k, s', hk, rfl, hkg, hB, ht, hI⟩ := hrel
    have Ht := Lib.hid ht; clear ht
    have hnl := hn3.out
    have hw01 : Gr w0 w1 := h0w.trans hg1
    have hw0r : Gr w0 wr := Gr.kg (w := w1) hw01 hkg hbase
    have hpl : s'.pieces.length + 2 ≤ 1099511627776 := by have := hI.len; have := HN.out; omega
    by_cases hlt : k < n
    · obtain ⟨b, off, xk, xt, xa, xb, xv, xc, ats, sl, hx, rfl, hr, c0, c1, c2, c3, c4, c5, c6, s1, s2⟩ := (OwnOps.rd (OwnOps.kg (w := w1) ho1 hkg (by decide) (by decide)) hlen).at_ k hlt
      have Hx := Lib.hid hx; clear hx
      have hlt' : (k : Int) < n := by omega
      have hJ : checkOp ⟨xk, xt, ⟨xa, xb, xv⟩, xc, ats⟩ = 0 → s'.fits (toPiece ⟨xk, xt, ⟨xa, xb, xv⟩, xc, ats⟩) = true → JoinOk s'.pieces (toPiece ⟨xk, xt, ⟨xa, xb, xv⟩, xc, ats⟩) := fun h1 h2 =>
        hI.joinOk h2 (len_ok h1 s1).1 (by
          have e1 := tsize_of (o := ⟨xk, xt, ⟨xa, xb, xv⟩, xc, ats⟩)
          have e2 := opsum_take Hx.out
          have e3 := opsum_take_le L (k + 1)
          have e4 := HT.out
          simp only at e1 e2
          omega)
      have HJ := Lib.hid hJ; clear hJ
      obtain ⟨C, hC⟩ : ∃ C, (s'.push ⟨xk, xt, ⟨xa, xb, xv⟩, xc, ats⟩).2 = C := ⟨_, rfl⟩
      have HC := Lib.hid hC; clear hC
      have HI := Lib.hid hI
      obtain ⟨i1, i2, i3, i4, i5, i6, -, -, -, -, -⟩ := hI
      obtain ⟨sa, sc, hsl, -⟩ := RdList.slice hr
      subst hsl
      clear hnl
      by_cases h0 : C = 0
      · have h0' : decide (C = 0) = true := by simpa using h0
        have H0 := Lib.hid h0; clear h0
        go_wp2_with (go_at_call 38; refine (push_any base g s' xk xt xa xb xv xc _ ats _ w0 hE (by repeat (with_reducible first | assumption | exact Gr.refl _ | apply Gr.alloc | apply Gr.drewN | apply Gr.drew | apply Gr.iter | (refine Gr.setCell ?_ (by simp) _) | (refine Gr.trans ?_ (by assumption)))) hbase (RdAttrs.gr (w := wr) hr (by repeat (with_reducible first | assumption | exact Gr.refl _ | apply Gr.alloc | apply Gr.drewN | apply Gr.drew | apply Gr.iter | (refine Gr.setCell ?_ (by simp) _) | (refine Gr.trans ?_ (by assumption))))) s1 s2 (BldR.gr (w := wr) hB (by repeat (with_reducible first | assumption | exact Gr.refl _ | apply Gr.alloc | apply Gr.drewN | apply Gr.drew | apply Gr.iter | (refine Gr.setCell ?_ (by simp) _) | (refine Gr.trans ?_ (by assumption))))) i1 i2 i3 i4 i5 (Int.le_trans i6 i2) hpl HJ.out).mono ?_; rw [HC.out]; rintro e w2 ⟨rfl, hk2, hB2⟩)
        go_roundw
        case rel =>
          have hpo : (s'.push ⟨xk, xt, ⟨xa, xb, xv⟩, xc, ats⟩).2 = 0 := HC.out.trans H0.out
          refine ⟨k + 1, _, by omega, by go_num, (Kg.alloc hkg _).trans hk2, hB2, ?_, ?_⟩
          · rw [← Ht.out, drop_cons Hx.out, pushFrom_ok hpo]
          · rw [opsum_take Hx.out, ← Nat.add_assoc]; exact (HI.out.push hpo s1)
        case measure => simp [intOf]; omega
      · have h0' : decide (C = 0) = false := by simpa using h0
        have H0 := Lib.hid h0; clear h0
        go_wp2_with (go_at_call 38; refine (push_any base g s' xk xt xa xb xv xc _ ats _ w0 hE (by repeat (with_reducible first | assumption | exact Gr.refl _ | apply Gr.alloc | apply Gr.drewN | apply Gr.drew | apply Gr.iter | (refine Gr.setCell ?_ (by simp) _) | (refine Gr.trans ?_ (by assumption)))) hbase (RdAttrs.gr (w := wr) hr (by repeat (with_reducible first | assumption | exact Gr.refl _ | apply Gr.alloc | apply Gr.drewN | apply Gr.drew | apply Gr.iter | (refine Gr.setCell ?_ (by simp) _) | (refine Gr.trans ?_ (by assumption))))) s1 s2 (BldR.gr (w := wr) hB (by repeat (with_reducible first | assumption | exact Gr.refl _ | apply Gr.alloc | apply Gr.drewN | apply Gr.drew | apply Gr.iter | (refine Gr.setCell ?_ (by simp) _) | (refine Gr.trans ?_ (by assumption))))) i1 i2 i3 i4 i5 (Int.le_trans i6 i2) hpl HJ.out).mono ?_; rw [HC.out]; rintro e w2 ⟨rfl, hk2, hB2⟩)
        go_ret
        have hpo : (s'.push ⟨xk, xt, ⟨xa, xb, xv⟩, xc, ats⟩).2 ≠ 0 := by rw [HC.out]; exact H0.out
        have hb : R = (s', k, C) := by rw [← Ht.out, drop_cons Hx.out, pushFrom_bad hpo, HC.out]
        rw [hb]
        exact ⟨rfl, ((Kg.of_gr hg1).trans (Kg.alloc hkg _)).trans hk2, fun h => absurd h H0.out⟩
    · obtain rfl : k = n := by omega
      have hl0 : L.drop k = [] := List.drop_eq_nil_of_le (by omega)
      have hb : R = (s', 0, 0) := by rw [← Ht.out, hl0]; rfl
      have Hb := Lib.hid hb; clear hb hl0
      go_wp2
      go_ret
      rw [Hb.out]
      refine ⟨by rw [errOf_zero]; rfl, (Kg.of_gr hg1).trans hkg, fun _ => ⟨hB, ?_⟩⟩
      rw [List.take_of_length_le (by omega)] at hI
      rw [hnl]
      exact hI
set_option maxHeartbeats 2000000 in
theorem concat_any {ea : Nat → Addr} (pa pb : List Piece) (va vb : Value) (la lb : List Op) (s1 s2 : Bld) (w : World) (hE : Env ea w) (ha : DeltaR w va pa) (hb : DeltaR w vb pb) (hga : ∀ p ∈ pa, p.good) (hgb : ∀ p ∈ pb, p.good) (hla : pa.map Piece.op = la) (hlb : pb.map Piece.op = lb)
    (h1 : pushFrom .new 0 la = (s1, 0, 0)) (h2 : pushFrom s1 0 lb = (s2, 0, 0)) (hT : opsum la + opsum lb ≤ 1099511627776) (hN : 2 * (la.length + lb.length) + 2 ≤ 1099511627776) :
    Calls Tryz.prog 57 #[va, vb] w fun e w' => ∃ v', e = .returned (.tuple #[v', .nilIface]) ∧ DeltaR w' v' s2.delta ∧ Gr w w' := by
  obtain ⟨g1, sl1, rfl, hb1, hr1⟩ := ha
  have ha : DeltaR w (.pointer (some ⟨g1, 0, none⟩)) pa := ⟨g1, sl1, rfl, hb1, hr1⟩
  obtain ⟨g2, sl2, rfl, hb2, hr2⟩ := hb
  have hb : DeltaR w (.pointer (some ⟨g2, 0, none⟩)) pb := ⟨g2, sl2, rfl, hb2, hr2⟩
  clear hb1 hr1 hb2 hr2
  have H1 := Lib.hid h1; clear h1
  have H2 := Lib.hid h2; clear h2
  go_enter Tryz.func57, Tryz.ntmps57
  go_wp2_with (first
    | (go_at_call 33; refine (new_any _).mono ?_; rintro e w1 ⟨rfl, hB1, hg1⟩)
    | (go_at_call 116; (with_reducible refine (mpush_any w.heap.size w.heap.size .new 0 0 pa la _ _ w hE (by repeat (with_reducible first | assumption | exact Gr.refl _ | apply Gr.alloc | apply Gr.drewN | apply Gr.drew | apply Gr.iter | (refine Gr.setCell ?_ (by simp) _) | (refine Gr.trans ?_ (by assumption)))) (Nat.le_refl _) (ha.gr (by repeat (with_reducible first | assumption | exact Gr.refl _ | apply Gr.alloc | apply Gr.drewN | apply Gr.drew | apply Gr.iter | (refine Gr.setCell ?_ (by simp) _) | (refine Gr.trans ?_ (by assumption))))) hga hla (BldR.gr (w := w1) hB1 (by repeat (with_reducible first | assumption | exact Gr.refl _ | apply Gr.alloc | apply Gr.drewN | apply Gr.drew | apply Gr.iter | (refine Gr.setCell ?_ (by simp) _) | (refine Gr.trans ?_ (by assumption))))) Bld.Inv.new (by omega) (by omega)).mono ?_); rw [H1.out]; rintro e w2 ⟨rfl, hk2, hx2⟩; obtain ⟨hB2, hI2⟩ := hx2 rfl; have hg2 : Gr w w2 := Gr.kg (w := w1) (by repeat (with_reducible first | assumption | exact Gr.refl _ | apply Gr.alloc | apply Gr.drewN | apply Gr.drew | apply Gr.iter | (refine Gr.setCell ?_ (by simp) _) | (refine Gr.trans ?_ (by assumption)))) hk2 (Nat.le_refl _); dsimp only; rw [errOf_zero])
    | (go_at_call 116; (with_reducible refine (mpush_any w.heap.size w.heap.size s1 _ _ pb lb _ _ w hE (by repeat (with_reducible first | assumption | exact Gr.refl _ | apply Gr.alloc | apply Gr.drewN | apply Gr.drew | apply Gr.iter | (refine Gr.setCell ?_ (by simp) _) | (refine Gr.trans ?_ (by assumption)))) (Nat.le_refl _) (hb.gr (by repeat (with_reducible first | assumption | exact Gr.refl _ | apply Gr.alloc | apply Gr.drewN | apply Gr.drew | apply Gr.iter | (refine Gr.setCell ?_ (by simp) _) | (refine Gr.trans ?_ (by assumption))))) hgb hlb (BldR.gr (w := w2) hB2 (by repeat (with_reducible first | assumption | exact Gr.refl _ | apply Gr.alloc | apply Gr.drewN | apply Gr.drew | apply Gr.iter | (refine Gr.setCell ?_ (by simp) _) | (refine Gr.trans ?_ (by assumption))))) hI2 (by omega) (by omega)).mono ?_); rw [H2.out]; rintro e w3 ⟨rfl, hk3, hx3⟩; obtain ⟨hB3, hI3⟩ := hx3 rfl; have hg3 : Gr w w3 := Gr.kg (w := w2) (by repeat (with_reducible first | assumption | exact Gr.refl _ | apply Gr.alloc | apply Gr.drewN | apply Gr.drew | apply Gr.iter | (refine Gr.setCell ?_ (by simp) _) | (refine Gr.trans ?_ (by assumption)))) hk3 (Nat.le_refl _); dsimp only; rw [errOf_zero])
    | (go_at_call 39; refine (delta_any w.heap.size w.heap.size s2 _ (BldR.gr (w := w3) hB3 (by repeat (with_reducible first | assumption | exact Gr.refl _ | apply Gr.alloc | apply Gr.drewN | apply Gr.drew | apply Gr.iter | (refine Gr.setCell ?_ (by simp) _) | (refine Gr.trans ?_ (by assumption))))) (by have := hI3.len; omega)).mono ?_; rintro e w4 ⟨v4, rfl, hd4, hg4⟩; obtain ⟨g4, sl4, rfl, hd4⟩ := hd4))
  go_ret2
  exact ⟨_, rfl, ⟨_, _, rfl, hd4⟩, (by repeat (with_reducible first | assumption | exact Gr.refl _ | apply Gr.alloc | apply Gr.drewN | apply Gr.drew | apply Gr.iter | (refine Gr.setCell ?_ (by simp) _) | (refine Gr.trans ?_ (by assumption))))⟩
end Ve
/- Document, Builder.Retain, Delta.Count, Shift; vellumlaw08.is, of. -/
namespace Ve
open Go Go.RowKit Go.Proofs

set_option maxHeartbeats 400000 in
theorem document_any {ea : Nat → Addr} (ps : List Piece) (v : Value) (w : World) (hE : Env ea w) (hD : DeltaR w v ps) (hok : PsOk ps) (hb : bsum ps ≤ 1099511627776) (hr : rsum ps ≤ 1099511627776) :
    Calls Tryz.prog 55 #[v] w fun e w' => e = .returned (.bool (bsum ps == 0)) ∧ Gr w w' := by
  obtain ⟨g, sl, rfl, hBD, hrd⟩ := hD
  have hD : DeltaR w (.pointer (some ⟨g, 0, none⟩)) ps := ⟨g, sl, rfl, hBD, hrd⟩
  clear hBD hrd
  have HB := Lib.hid (And.intro hb hr)
  obtain ⟨B, hB⟩ : ∃ B, bsum ps = B := ⟨_, rfl⟩
  rw [hB]
  have H := Lib.hid hB; clear hB hb hr
  go_enter Tryz.func55, Tryz.ntmps55
  go_wp2_with (go_at_call 47; refine (base_any ps _ _ (hE.gr (by repeat (with_reducible first | assumption | exact Gr.refl _ | apply Gr.alloc | apply Gr.drewN | apply Gr.drew | apply Gr.iter | (refine Gr.setCell ?_ (by simp) _) | (refine Gr.trans ?_ (by assumption))))) (hD.gr (by repeat (with_reducible first | assumption | exact Gr.refl _ | apply Gr.alloc | apply Gr.drewN | apply Gr.drew | apply Gr.iter | (refine Gr.setCell ?_ (by simp) _) | (refine Gr.trans ?_ (by assumption))))) hok HB.out.1 HB.out.2).mono ?_; rw [H.out]; rintro e w1 ⟨rfl, hg1⟩)
  go_ret
  exact ⟨rfl, (by repeat (with_reducible first | assumption | exact Gr.refl _ | apply Gr.alloc | apply Gr.drewN | apply Gr.drew | apply Gr.iter | (refine Gr.setCell ?_ (by simp) _) | (refine Gr.trans ?_ (by assumption))))⟩
theorem dcount_any (ps : List Piece) (v : Value) (w : World) (hD : DeltaR w v ps) : Calls Tryz.prog 89 #[v] w fun e w' => e = .returned (.int .i64 ps.length) ∧ Gr w w' := by
  obtain ⟨g, sl, rfl, hB, hr⟩ := hD
  obtain ⟨a, n, cap, rfl, h1, h2, h3, h4⟩ := hr.sl
  have b0 := hB.cell
  rw [h4.out]
  go_enter Tryz.func89, Tryz.ntmps89
  go_wp2
  go_ret
  exact ⟨rfl, (by repeat (with_reducible first | assumption | exact Gr.refl _ | apply Gr.alloc | apply Gr.drewN | apply Gr.drew | apply Gr.iter | (refine Gr.setCell ?_ (by simp) _) | (refine Gr.trans ?_ (by assumption))))⟩
set_option maxHeartbeats 400000 in
theorem bretain_any {ea : Nat → Addr} (base g : Nat) (s : Bld) (n : Int) (w w0 : World) (hE : Env ea w0) (h0w : Gr w0 w) (hbase : w0.heap.size ≤ base)
    (hB : BldR base w g s) (h1 : 0 ≤ s.base) (h2 : s.base ≤ 1099511627776) (h3 : 0 ≤ s.result) (h4 : s.result ≤ 1099511627776) (h5 : 0 ≤ s.gone) (h6 : s.gone ≤ 1099511627776) (hm : s.pieces.length + 2 ≤ 1099511627776)
    (hj : checkOp ⟨3, es, ep, n, []⟩ = 0 → s.fits (toPiece ⟨3, es, ep, n, []⟩) = true → JoinOk s.pieces (toPiece ⟨3, es, ep, n, []⟩)) :
    Calls Tryz.prog 119 #[.pointer (some ⟨g, 0, none⟩), .int .i64 n, .slice none 0 0] w fun e w' =>
      e = .returned (errOf ea (s.push ⟨3, es, ep, n, []⟩).2) ∧ Kg (Fr base) bldT w w' ∧ BldR base w' g (s.push ⟨3, es, ep, n, []⟩).1 := by
  obtain ⟨R, hR⟩ : ∃ R, s.push ⟨3, es, ep, n, []⟩ = R := ⟨_, rfl⟩
  rw [hR]
  have HR := Lib.hid hR; clear hR
  have HJ := Lib.hid hj; clear hj
  have HB := Lib.hid hB; clear hB
  go_enter Tryz.func119, Tryz.ntmps119
  go_wp2_with (go_at_call 38; refine (push_any base g s 3 es 0 0 es n (.slice none 0 0) [] _ w0 hE (by repeat (with_reducible first | assumption | exact Gr.refl _ | apply Gr.alloc | apply Gr.drewN | apply Gr.drew | apply Gr.iter | (refine Gr.setCell ?_ (by simp) _) | (refine Gr.trans ?_ (by assumption)))) hbase (RdList.nil ..) (by simp only [szS]; decide) (by simp only [szS]; decide) (BldR.gr (w := w) HB.out (by repeat (with_reducible first | assumption | exact Gr.refl _ | apply Gr.alloc | apply Gr.drewN | apply Gr.drew | apply Gr.iter | (refine Gr.setCell ?_ (by simp) _) | (refine Gr.trans ?_ (by assumption))))) h1 h2 h3 h4 h5 h6 hm HJ.out).mono ?_; rw [show (⟨3, es, ⟨0, 0, es⟩, n, []⟩ : Op) = ⟨3, es, ep, n, []⟩ from rfl, HR.out]; rintro e w1 ⟨rfl, hk1, hB1⟩)
  go_ret
  exact ⟨rfl, by (repeat (with_reducible first | exact Kg.refl _ | assumption | refine Kg.alloc ?_ _ | refine Kg.drewN ?_ _ | refine Kg.drew ?_ | (refine Kg.setB (e := 142) ?_ (by (repeat (with_reducible first | assumption | (apply Blk.bt; assumption) | (refine BT.set ?_ _ _) | (refine BT.far ?_ (by simp; omega) _) | refine BT.alloc ?_ _ | refine BT.drewN ?_ _ | refine BT.drew ?_ | (refine BT.gr ?_ (by assumption))))) (by decide) (by assumption) _ _) | (refine Kg.setNew ?_ (by simp; omega) _) | (refine Kg.trans_gr ?_ (by assumption)) | (refine Kg.trans ?_ (by assumption)))), hB1⟩
set_option maxHeartbeats 400000 in
theorem is08_any (ps : List Piece) (l : List Op) (v vl : Value) (w : World) (hD : DeltaR w v ps) (hgood : ∀ p ∈ ps, p.good) (hl : RdOps w vl l) :
    Calls Tryz.prog 64 #[v, vl] w fun e w' => e = .returned (.bool (decide (ps.map Piece.op = l))) ∧ Gr w w' := by
  have hlen := hD.short
  obtain ⟨g, sl, rfl, hB, hr⟩ := hD
  have hD : DeltaR w (.pointer (some ⟨g, 0, none⟩)) ps := ⟨g, sl, rfl, hB, hr⟩
  obtain ⟨al, nl, cl, rfl, -, -, -, -⟩ := hl.sl
  obtain ⟨L, hL⟩ : ∃ L, ps.map Piece.op = L := ⟨_, rfl⟩
  have hLl : L.length ≤ 1099511627776 := by rw [← hL]; simpa using hlen
  rw [hL]
  have HL := Lib.hid (And.intro hL hLl); clear hL hLl hB hr
  go_enter Tryz.func64, Tryz.ntmps64
  go_wp2_with (first
    | (go_at_call 36; refine (dops_any _ _ _ (hD.gr (by repeat (with_reducible first | assumption | exact Gr.refl _ | apply Gr.alloc | apply Gr.drewN | apply Gr.drew | apply Gr.iter | (refine Gr.setCell ?_ (by simp) _) | (refine Gr.trans ?_ (by assumption))))) hgood).mono ?_; rw [HL.out.1]; rintro e w1 ⟨v1, rfl, ho1, hg1⟩; have hR1 := OwnOps.rd ho1 HL.out.2; obtain ⟨a1, n1, c1, rfl, -⟩ := ho1.sl)
    | (go_at_call 120; refine (rsame_any L l _ _ _ (RdOps.gr hR1 (by repeat (with_reducible first | assumption | exact Gr.refl _ | apply Gr.alloc | apply Gr.drewN | apply Gr.drew | apply Gr.iter | (refine Gr.setCell ?_ (by simp) _) | (refine Gr.trans ?_ (by assumption))))) (RdOps.gr hl (by repeat (with_reducible first | assumption | exact Gr.refl _ | apply Gr.alloc | apply Gr.drewN | apply Gr.drew | apply Gr.iter | (refine Gr.setCell ?_ (by simp) _) | (refine Gr.trans ?_ (by assumption)))))).mono ?_; rintro e w2 ⟨rfl, hg2⟩))
  go_ret
  exact ⟨rfl, (by repeat (with_reducible first | assumption | exact Gr.refl _ | apply Gr.alloc | apply Gr.drewN | apply Gr.drew | apply Gr.iter | (refine Gr.setCell ?_ (by simp) _) | (refine Gr.trans ?_ (by assumption))))⟩
set_option maxHeartbeats 1000000 in
theorem of08_yes {ea : Nat → Addr} (l : List Op) (v : Value) (w : World) (hE : Env ea w) (hl : RdOps w v l) (hT : opsum l ≤ 1099511627776) (hN : 2 * l.length + 2 ≤ 1099511627776) (hc : canonL l = true) :
    Calls Tryz.prog 45 #[v] w fun e w' => ∃ v', e = .returned v' ∧ DeltaR w' v' (l.map toPiece) ∧ Gr w w' := by
  obtain ⟨a, n, cap, rfl, -, -, -, -⟩ := hl.sl
  obtain ⟨s, hs, hd⟩ := canon_push hc
  have HS := Lib.hid (And.intro hs hd); clear hs hd
  have HC := Lib.hid hc; clear hc
  go_enter Tryz.func45, Tryz.ntmps45
  go_wp2_with (first
    | (go_at_call 46; refine (rcanon_any l _ _ (hE.gr (by repeat (with_reducible first | assumption | exact Gr.refl _ | apply Gr.alloc | apply Gr.drewN | apply Gr.drew | apply Gr.iter | (refine Gr.setCell ?_ (by simp) _) | (refine Gr.trans ?_ (by assumption))))) (RdOps.gr hl (by repeat (with_reducible first | assumption | exact Gr.refl _ | apply Gr.alloc | apply Gr.drewN | apply Gr.drew | apply Gr.iter | (refine Gr.setCell ?_ (by simp) _) | (refine Gr.trans ?_ (by assumption)))))).mono ?_; rw [HC.out]; rintro e w1 ⟨rfl, hg1⟩)
    | (go_at_call 87; refine (bof_any l _ _ (hE.gr (by repeat (with_reducible first | assumption | exact Gr.refl _ | apply Gr.alloc | apply Gr.drewN | apply Gr.drew | apply Gr.iter | (refine Gr.setCell ?_ (by simp) _) | (refine Gr.trans ?_ (by assumption))))) (RdOps.gr hl (by repeat (with_reducible first | assumption | exact Gr.refl _ | apply Gr.alloc | apply Gr.drewN | apply Gr.drew | apply Gr.iter | (refine Gr.setCell ?_ (by simp) _) | (refine Gr.trans ?_ (by assumption))))) hT hN).mono ?_; rw [HS.out.1]; rintro e w2 ⟨v2, rfl, hg2, hd2, -⟩; have hd2 := hd2 rfl; rw [HS.out.2] at hd2; obtain ⟨g2, sl2, hv2, hbr2⟩ := hd2; subst hv2; dsimp only; rw [errOf_zero]))
  go_ret
  exact ⟨_, rfl, DeltaR.gr (w := w2) ⟨g2, sl2, rfl, hbr2⟩ (by repeat (with_reducible first | assumption | exact Gr.refl _ | apply Gr.alloc | apply Gr.drewN | apply Gr.drew | apply Gr.iter | (refine Gr.setCell ?_ (by simp) _) | (refine Gr.trans ?_ (by assumption)))), (by repeat (with_reducible first | assumption | exact Gr.refl _ | apply Gr.alloc | apply Gr.drewN | apply Gr.drew | apply Gr.iter | (refine Gr.setCell ?_ (by simp) _) | (refine Gr.trans ?_ (by assumption))))⟩
set_option maxHeartbeats 1000000 in
theorem of08_no {ea : Nat → Addr} (l : List Op) (v : Value) (w : World) (hE : Env ea w) (hl : RdOps w v l) (hc : canonL l = false) :
    Calls Tryz.prog 45 #[v] w fun e w' => e = .returned (.pointer none) ∧ Gr w w' := by
  obtain ⟨a, n, cap, rfl, -, -, -, -⟩ := hl.sl
  have HC := Lib.hid hc; clear hc
  go_enter Tryz.func45, Tryz.ntmps45
  go_wp2_with (go_at_call 46; refine (rcanon_any l _ _ (hE.gr (by repeat (with_reducible first | assumption | exact Gr.refl _ | apply Gr.alloc | apply Gr.drewN | apply Gr.drew | apply Gr.iter | (refine Gr.setCell ?_ (by simp) _) | (refine Gr.trans ?_ (by assumption))))) (RdOps.gr hl (by repeat (with_reducible first | assumption | exact Gr.refl _ | apply Gr.alloc | apply Gr.drewN | apply Gr.drew | apply Gr.iter | (refine Gr.setCell ?_ (by simp) _) | (refine Gr.trans ?_ (by assumption)))))).mono ?_; rw [HC.out]; rintro e w1 ⟨rfl, hg1⟩)
  go_ret
  exact ⟨rfl, (by repeat (with_reducible first | assumption | exact Gr.refl _ | apply Gr.alloc | apply Gr.drewN | apply Gr.drew | apply Gr.iter | (refine Gr.setCell ?_ (by simp) _) | (refine Gr.trans ?_ (by assumption))))⟩
end Ve
