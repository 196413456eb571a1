/- Walks of layer 8, where a call is refused: Concat, Shift, Slice; vellumlaw08.told. -/
import Derived.Test.YtapolkhdikdjbaaGreatDoorM5
import Derived.Test.YtapolkhdikdjbaaGreatDoorN1
set_option linter.all false
namespace Ve
open Go Go.RowKit Go.Proofs

set_option maxHeartbeats 2000000 in
theorem concat_bad {ea : Nat → Addr} (pa pb : List Piece) (va vb : Value) (la lb : List Op) (s1 : Bld) (E : Int) (w : World) (hE : Env ea w) (ha : DeltaR w va pa) (hb : DeltaR w vb pb) (hga : ∀ p ∈ pa, p.good) (hgb : ∀ p ∈ pb, p.good) (hla : pa.map Piece.op = la) (hlb : pb.map Piece.op = lb)
    (h1 : pushFrom .new 0 la = (s1, 0, 0)) (h2 : (pushFrom s1 0 lb).2.2 = E) (he : E ≠ 0) (hT : opsum la + opsum lb ≤ 1099511627776) (hN : 2 * (la.length + lb.length) + 2 ≤ 1099511627776) :
    Calls Tryz.prog 57 #[va, vb] w fun e w' => e = .returned (.tuple #[.pointer none, errOf ea E]) ∧ Gr w w' := by
  obtain ⟨g1, sl1, rfl, hb1, hr1⟩ := ha
  have ha : DeltaR w (.pointer (some ⟨g1, 0, none⟩)) pa := ⟨g1, sl1, rfl, hb1, hr1⟩
  obtain ⟨g2, sl2, rfl, hb2, hr2⟩ := hb
  have hb : DeltaR w (.pointer (some ⟨g2, 0, none⟩)) pb := ⟨g2, sl2, rfl, hb2, hr2⟩
  clear hb1 hr1 hb2 hr2
  have H1 := Lib.hid h1; clear h1
  have H2 := Lib.hid h2; clear h2
  have h0' : decide (E = 0) = false := by simpa using he
  clear he
  go_enter Tryz.func57, Tryz.ntmps57
  go_wp2_with (first
    | (go_at_call 33; refine (new_any _).mono ?_; rintro e w1 ⟨rfl, hB1, hg1⟩)
    | (go_at_call 116; (with_reducible refine (mpush_any w.heap.size w.heap.size .new 0 0 pa la _ _ w hE (by repeat (with_reducible first | assumption | exact Gr.refl _ | apply Gr.alloc | apply Gr.drewN | apply Gr.drew | apply Gr.iter | (refine Gr.setCell ?_ (by simp) _) | (refine Gr.trans ?_ (by assumption)))) (Nat.le_refl _) (ha.gr (by repeat (with_reducible first | assumption | exact Gr.refl _ | apply Gr.alloc | apply Gr.drewN | apply Gr.drew | apply Gr.iter | (refine Gr.setCell ?_ (by simp) _) | (refine Gr.trans ?_ (by assumption))))) hga hla (BldR.gr (w := w1) hB1 (by repeat (with_reducible first | assumption | exact Gr.refl _ | apply Gr.alloc | apply Gr.drewN | apply Gr.drew | apply Gr.iter | (refine Gr.setCell ?_ (by simp) _) | (refine Gr.trans ?_ (by assumption))))) Bld.Inv.new (by omega) (by omega)).mono ?_); rw [H1.out]; rintro e w2 ⟨rfl, hk2, hx2⟩; obtain ⟨hB2, hI2⟩ := hx2 rfl; have hg2 : Gr w w2 := Gr.kg (w := w1) (by repeat (with_reducible first | assumption | exact Gr.refl _ | apply Gr.alloc | apply Gr.drewN | apply Gr.drew | apply Gr.iter | (refine Gr.setCell ?_ (by simp) _) | (refine Gr.trans ?_ (by assumption)))) hk2 (Nat.le_refl _); dsimp only; rw [errOf_zero])
    | (go_at_call 116; (with_reducible refine (mpush_any w.heap.size w.heap.size s1 _ _ pb lb _ _ w hE (by repeat (with_reducible first | assumption | exact Gr.refl _ | apply Gr.alloc | apply Gr.drewN | apply Gr.drew | apply Gr.iter | (refine Gr.setCell ?_ (by simp) _) | (refine Gr.trans ?_ (by assumption)))) (Nat.le_refl _) (hb.gr (by repeat (with_reducible first | assumption | exact Gr.refl _ | apply Gr.alloc | apply Gr.drewN | apply Gr.drew | apply Gr.iter | (refine Gr.setCell ?_ (by simp) _) | (refine Gr.trans ?_ (by assumption))))) hgb hlb (BldR.gr (w := w2) hB2 (by repeat (with_reducible first | assumption | exact Gr.refl _ | apply Gr.alloc | apply Gr.drewN | apply Gr.drew | apply Gr.iter | (refine Gr.setCell ?_ (by simp) _) | (refine Gr.trans ?_ (by assumption))))) hI2 (by omega) (by omega)).mono ?_); rw [H2.out]; rintro e w3 ⟨rfl, hk3, -⟩; have hg3 : Gr w w3 := Gr.kg (w := w2) (by repeat (with_reducible first | assumption | exact Gr.refl _ | apply Gr.alloc | apply Gr.drewN | apply Gr.drew | apply Gr.iter | (refine Gr.setCell ?_ (by simp) _) | (refine Gr.trans ?_ (by assumption)))) hk3 (Nat.le_refl _)))
  go_ret2
  exact ⟨rfl, (by repeat (with_reducible first | assumption | exact Gr.refl _ | apply Gr.alloc | apply Gr.drewN | apply Gr.drew | apply Gr.iter | (refine Gr.setCell ?_ (by simp) _) | (refine Gr.trans ?_ (by assumption))))⟩
set_option maxHeartbeats 2000000 in
theorem shift_range {ea : Nat → Addr} (v : Value) (n : Int) (w : World) (hE : Env ea w) (hn : n < 0 ∨ 1099511627776 < n) :
    Calls Tryz.prog 62 #[v, .int .i64 n] w fun e w' => e = .returned (.tuple #[.pointer none, errOf ea 12]) ∧ Gr w w' := by
  have e12 := hE.e12; have z12 := cell_lt e12
  by_cases h1 : n < 0
  · clear hn
    go_enter Tryz.func62, Tryz.ntmps62
    go_wp2
    go_quiet (fail)
    go_wp2
    go_ret2
    exact ⟨ret_two rfl rfl, (by repeat (with_reducible first | assumption | exact Gr.refl _ | apply Gr.alloc | apply Gr.drewN | apply Gr.drew | apply Gr.iter | (refine Gr.setCell ?_ (by simp) _) | (refine Gr.trans ?_ (by assumption))))⟩
  · have h2 : 1099511627776 < n := by omega
    clear hn
    go_enter Tryz.func62, Tryz.ntmps62
    go_wp2
    go_quiet (fail)
    go_wp2
    go_ret2
    exact ⟨ret_two rfl rfl, (by repeat (with_reducible first | assumption | exact Gr.refl _ | apply Gr.alloc | apply Gr.drewN | apply Gr.drew | apply Gr.iter | (refine Gr.setCell ?_ (by simp) _) | (refine Gr.trans ?_ (by assumption))))⟩
set_option maxHeartbeats 2000000 in
theorem shift_same (ps : List Piece) (g : Nat) (n : Int) (w : World) (hD : DeltaR w (.pointer (some ⟨g, 0, none⟩)) ps) (hn0 : 0 ≤ n) (hn1 : n ≤ 1099511627776) (hn : n = 0 ∨ ps.length = 0) :
    Calls Tryz.prog 62 #[.pointer (some ⟨g, 0, none⟩), .int .i64 n] w fun e w' => e = .returned (.tuple #[.pointer (some ⟨g, 0, none⟩), .nilIface]) ∧ Gr w w' := by
  by_cases h1 : n = 0
  · subst h1
    clear hn
    go_enter Tryz.func62, Tryz.ntmps62
    go_wp2
    go_ret2
    exact ⟨rfl, (by repeat (with_reducible first | assumption | exact Gr.refl _ | apply Gr.alloc | apply Gr.drewN | apply Gr.drew | apply Gr.iter | (refine Gr.setCell ?_ (by simp) _) | (refine Gr.trans ?_ (by assumption))))⟩
  · have hl : ps.length = 0 := by omega
    have HL := Lib.hid hl; clear hl hn
    have hn0' : (n == 0) = false := by simpa using h1
    have hn1' : ¬ n < 0 := by omega
    have hn2' : ¬ 1099511627776 < n := by omega
    clear h1
    go_enter Tryz.func62, Tryz.ntmps62
    go_wp2_with (go_at_call 89; refine (dcount_any ps _ _ (hD.gr (by repeat (with_reducible first | assumption | exact Gr.refl _ | apply Gr.alloc | apply Gr.drewN | apply Gr.drew | apply Gr.iter | (refine Gr.setCell ?_ (by simp) _) | (refine Gr.trans ?_ (by assumption)))))).mono ?_; rw [HL.out]; rintro e w0 ⟨rfl, hg0⟩)
    go_ret2
    exact ⟨rfl, (by repeat (with_reducible first | assumption | exact Gr.refl _ | apply Gr.alloc | apply Gr.drewN | apply Gr.drew | apply Gr.iter | (refine Gr.setCell ?_ (by simp) _) | (refine Gr.trans ?_ (by assumption))))⟩
set_option maxHeartbeats 2000000 in
theorem shift_bad {ea : Nat → Addr} (ps : List Piece) (v : Value) (n : Int) (L : List Op) (s1 : Bld) (E : Int) (w : World) (hE : Env ea w) (hD : DeltaR w v ps) (hgood : ∀ p ∈ ps, p.good) (hL : ps.map Piece.op = L)
    (hn1 : 1 ≤ n) (hn2 : n ≤ 1099511627776) (hc : ps.length ≠ 0) (h1 : Bld.new.push ⟨3, es, ep, n, []⟩ = (s1, 0)) (h2 : (pushFrom s1 0 L).2.2 = E) (he : E ≠ 0) (hI : s1.Inv 0 1) (hT : opsum L ≤ 1099511627776) (hN : 2 * (1 + L.length) + 2 ≤ 1099511627776) :
    Calls Tryz.prog 62 #[v, .int .i64 n] w fun e w' => e = .returned (.tuple #[.pointer none, errOf ea E]) ∧ Gr w w' := by
  obtain ⟨g1, sl1, rfl, hb1, hr1⟩ := hD
  have hD : DeltaR w (.pointer (some ⟨g1, 0, none⟩)) ps := ⟨g1, sl1, rfl, hb1, hr1⟩
  clear hb1 hr1
  have H1 := Lib.hid h1; clear h1
  have H2 := Lib.hid h2; clear h2
  have h0' : decide (E = 0) = false := by simpa using he
  clear he
  obtain ⟨C, hC⟩ : ∃ C : Nat, ps.length = C := ⟨_, rfl⟩
  have HC := Lib.hid hC
  have hc0 : ((C : Int) == 0) = false := by rw [hC] at hc; simp; omega
  have hn0 : (n == 0) = false := by simp; omega
  clear hC hc
  go_enter Tryz.func62, Tryz.ntmps62
  go_wp2_with (first
    | (go_at_call 89; refine (dcount_any ps _ _ (hD.gr (by repeat (with_reducible first | assumption | exact Gr.refl _ | apply Gr.alloc | apply Gr.drewN | apply Gr.drew | apply Gr.iter | (refine Gr.setCell ?_ (by simp) _) | (refine Gr.trans ?_ (by assumption)))))).mono ?_; rw [HC.out]; rintro e w0 ⟨rfl, hg0⟩)
    | (go_at_call 33; refine (new_any _).mono ?_; rintro e w1 ⟨rfl, hB1, hg1⟩)
    | (go_at_call 119; refine (bretain_any w0.heap.size w0.heap.size .new n _ w0 (hE.gr (by repeat (with_reducible first | assumption | exact Gr.refl _ | apply Gr.alloc | apply Gr.drewN | apply Gr.drew | apply Gr.iter | (refine Gr.setCell ?_ (by simp) _) | (refine Gr.trans ?_ (by assumption))))) (by repeat (with_reducible first | assumption | exact Gr.refl _ | apply Gr.alloc | apply Gr.drewN | apply Gr.drew | apply Gr.iter | (refine Gr.setCell ?_ (by simp) _) | (refine Gr.trans ?_ (by assumption)))) (Nat.le_refl _) (BldR.gr (w := w1) hB1 (by repeat (with_reducible first | assumption | exact Gr.refl _ | apply Gr.alloc | apply Gr.drewN | apply Gr.drew | apply Gr.iter | (refine Gr.setCell ?_ (by simp) _) | (refine Gr.trans ?_ (by assumption))))) (by decide) (by decide) (by decide) (by decide) (by decide) (by decide) (by decide) (fun _ _ q r hq _ => by simp [Bld.new] at hq)).mono ?_; rw [H1.out]; rintro e w2 ⟨rfl, hk2, hB2⟩; have hg2 : Gr w0 w2 := Gr.kg (w := w1) (by repeat (with_reducible first | assumption | exact Gr.refl _ | apply Gr.alloc | apply Gr.drewN | apply Gr.drew | apply Gr.iter | (refine Gr.setCell ?_ (by simp) _) | (refine Gr.trans ?_ (by assumption)))) hk2 (Nat.le_refl _); dsimp only; rw [errOf_zero])
    | (go_at_call 116; refine (mpush_any w0.heap.size w0.heap.size s1 _ _ ps L _ _ w0 (hE.gr (by repeat (with_reducible first | assumption | exact Gr.refl _ | apply Gr.alloc | apply Gr.drewN | apply Gr.drew | apply Gr.iter | (refine Gr.setCell ?_ (by simp) _) | (refine Gr.trans ?_ (by assumption))))) (by repeat (with_reducible first | assumption | exact Gr.refl _ | apply Gr.alloc | apply Gr.drewN | apply Gr.drew | apply Gr.iter | (refine Gr.setCell ?_ (by simp) _) | (refine Gr.trans ?_ (by assumption)))) (Nat.le_refl _) (hD.gr (by repeat (with_reducible first | assumption | exact Gr.refl _ | apply Gr.alloc | apply Gr.drewN | apply Gr.drew | apply Gr.iter | (refine Gr.setCell ?_ (by simp) _) | (refine Gr.trans ?_ (by assumption))))) hgood hL (BldR.gr (w := w2) hB2 (by repeat (with_reducible first | assumption | exact Gr.refl _ | apply Gr.alloc | apply Gr.drewN | apply Gr.drew | apply Gr.iter | (refine Gr.setCell ?_ (by simp) _) | (refine Gr.trans ?_ (by assumption))))) hI (by omega) (by omega)).mono ?_; rw [H2.out]; rintro e w3 ⟨rfl, hk3, -⟩; have hg3 : Gr w0 w3 := Gr.kg (w := w2) (by repeat (with_reducible first | assumption | exact Gr.refl _ | apply Gr.alloc | apply Gr.drewN | apply Gr.drew | apply Gr.iter | (refine Gr.setCell ?_ (by simp) _) | (refine Gr.trans ?_ (by assumption)))) hk3 (Nat.le_refl _)))
  go_ret2
  exact ⟨rfl, (by repeat (with_reducible first | assumption | exact Gr.refl _ | apply Gr.alloc | apply Gr.drewN | apply Gr.drew | apply Gr.iter | (refine Gr.setCell ?_ (by simp) _) | (refine Gr.trans ?_ (by assumption))))⟩
set_option maxHeartbeats 2000000 in
theorem slice_doc {ea : Nat → Addr} (ps : List Piece) (v : Value) (f t : Int) (w : World) (hE : Env ea w) (hD : DeltaR w v ps) (hok : PsOk ps) (hb : bsum ps ≤ 1099511627776) (hr : rsum ps ≤ 1099511627776) (hne : bsum ps ≠ 0) :
    Calls Tryz.prog 60 #[v, .int .i64 f, .int .i64 t] w fun e w' => e = .returned (.tuple #[.pointer none, errOf ea 9]) ∧ Gr w w' := by
  have e9 := hE.e9; have z9 := cell_lt e9
  obtain ⟨g1, sl1, rfl, hbd, hrd⟩ := hD
  have hD : DeltaR w (.pointer (some ⟨g1, 0, none⟩)) ps := ⟨g1, sl1, rfl, hbd, hrd⟩
  clear hbd hrd
  obtain ⟨B, hB⟩ : ∃ B, bsum ps = B := ⟨_, rfl⟩
  have hz : (B == 0) = false := by rw [← hB]; simpa using hne
  have hz' : decide (B = 0) = false := by rw [← hB]; simpa using hne
  have HZ := Lib.hid hB; clear hB
  go_enter Tryz.func60, Tryz.ntmps60
  go_wp2_with (go_at_call 55; refine (document_any ps _ _ (hE.gr (by repeat (with_reducible first | assumption | exact Gr.refl _ | apply Gr.alloc | apply Gr.drewN | apply Gr.drew | apply Gr.iter | (refine Gr.setCell ?_ (by simp) _) | (refine Gr.trans ?_ (by assumption))))) (hD.gr (by repeat (with_reducible first | assumption | exact Gr.refl _ | apply Gr.alloc | apply Gr.drewN | apply Gr.drew | apply Gr.iter | (refine Gr.setCell ?_ (by simp) _) | (refine Gr.trans ?_ (by assumption))))) hok hb hr).mono ?_; rw [HZ.out]; rintro e w1 ⟨rfl, hg1⟩; have f9 := (hE.gr (w' := w1) (by repeat (with_reducible first | assumption | exact Gr.refl _ | apply Gr.alloc | apply Gr.drewN | apply Gr.drew | apply Gr.iter | (refine Gr.setCell ?_ (by simp) _) | (refine Gr.trans ?_ (by assumption))))).e9)
  go_quiet (fail)
  go_wp2
  go_ret2
  exact ⟨ret_two rfl rfl, (by repeat (with_reducible first | assumption | exact Gr.refl _ | apply Gr.alloc | apply Gr.drewN | apply Gr.drew | apply Gr.iter | (refine Gr.setCell ?_ (by simp) _) | (refine Gr.trans ?_ (by assumption))))⟩
set_option maxHeartbeats 2000000 in
theorem slice_range {ea : Nat → Addr} (ps : List Piece) (v : Value) (f t : Int) (w : World) (hE : Env ea w) (hD : DeltaR w v ps) (hok : PsOk ps) (hb : bsum ps = 0) (hr : rsum ps ≤ 1099511627776) (hne : f < 0 ∨ t < f ∨ rsum ps < t) :
    Calls Tryz.prog 60 #[v, .int .i64 f, .int .i64 t] w fun e w' => e = .returned (.tuple #[.pointer none, errOf ea 12]) ∧ Gr w w' := by
  have e12 := hE.e12; have z12 := cell_lt e12
  obtain ⟨g1, sl1, rfl, hbd, hrd⟩ := hD
  have hD : DeltaR w (.pointer (some ⟨g1, 0, none⟩)) ps := ⟨g1, sl1, rfl, hbd, hrd⟩
  clear hbd hrd
  have hb' : bsum ps ≤ 1099511627776 := by omega
  have HZ := Lib.hid hb
  obtain ⟨R, hR⟩ : ∃ R, rsum ps = R := ⟨_, rfl⟩
  have HR := Lib.hid hR
  rw [hR] at hne
  by_cases c1 : f < 0
  · clear hne hR hb
    go_enter Tryz.func60, Tryz.ntmps60
    go_wp2_with (go_at_call 55; refine (document_any ps _ _ (hE.gr (by repeat (with_reducible first | assumption | exact Gr.refl _ | apply Gr.alloc | apply Gr.drewN | apply Gr.drew | apply Gr.iter | (refine Gr.setCell ?_ (by simp) _) | (refine Gr.trans ?_ (by assumption))))) (hD.gr (by repeat (with_reducible first | assumption | exact Gr.refl _ | apply Gr.alloc | apply Gr.drewN | apply Gr.drew | apply Gr.iter | (refine Gr.setCell ?_ (by simp) _) | (refine Gr.trans ?_ (by assumption))))) hok hb' hr).mono ?_; rw [HZ.out]; rintro e w1 ⟨rfl, hg1⟩; have f12 := (hE.gr (w' := w1) (by repeat (with_reducible first | assumption | exact Gr.refl _ | apply Gr.alloc | apply Gr.drewN | apply Gr.drew | apply Gr.iter | (refine Gr.setCell ?_ (by simp) _) | (refine Gr.trans ?_ (by assumption))))).e12)
    go_quiet (fail)
    go_wp2
    go_ret2
    exact ⟨ret_two rfl rfl, (by repeat (with_reducible first | assumption | exact Gr.refl _ | apply Gr.alloc | apply Gr.drewN | apply Gr.drew | apply Gr.iter | (refine Gr.setCell ?_ (by simp) _) | (refine Gr.trans ?_ (by assumption))))⟩
  · by_cases c2 : t < f
    · clear hne hR hb
      go_enter Tryz.func60, Tryz.ntmps60
      go_wp2_with (go_at_call 55; refine (document_any ps _ _ (hE.gr (by repeat (with_reducible first | assumption | exact Gr.refl _ | apply Gr.alloc | apply Gr.drewN | apply Gr.drew | apply Gr.iter | (refine Gr.setCell ?_ (by simp) _) | (refine Gr.trans ?_ (by assumption))))) (hD.gr (by repeat (with_reducible first | assumption | exact Gr.refl _ | apply Gr.alloc | apply Gr.drewN | apply Gr.drew | apply Gr.iter | (refine Gr.setCell ?_ (by simp) _) | (refine Gr.trans ?_ (by assumption))))) hok hb' hr).mono ?_; rw [HZ.out]; rintro e w1 ⟨rfl, hg1⟩; have f12 := (hE.gr (w' := w1) (by repeat (with_reducible first | assumption | exact Gr.refl _ | apply Gr.alloc | apply Gr.drewN | apply Gr.drew | apply Gr.iter | (refine Gr.setCell ?_ (by simp) _) | (refine Gr.trans ?_ (by assumption))))).e12)
      go_quiet (fail)
      go_wp2
      go_ret2
      exact ⟨ret_two rfl rfl, (by repeat (with_reducible first | assumption | exact Gr.refl _ | apply Gr.alloc | apply Gr.drewN | apply Gr.drew | apply Gr.iter | (refine Gr.setCell ?_ (by simp) _) | (refine Gr.trans ?_ (by assumption))))⟩
    · have c3 : R < t := by omega
      clear hne hR hb
      go_enter Tryz.func60, Tryz.ntmps60
      go_wp2_with (first
        | (go_at_call 55; refine (document_any ps _ _ (hE.gr (by repeat (with_reducible first | assumption | exact Gr.refl _ | apply Gr.alloc | apply Gr.drewN | apply Gr.drew | apply Gr.iter | (refine Gr.setCell ?_ (by simp) _) | (refine Gr.trans ?_ (by assumption))))) (hD.gr (by repeat (with_reducible first | assumption | exact Gr.refl _ | apply Gr.alloc | apply Gr.drewN | apply Gr.drew | apply Gr.iter | (refine Gr.setCell ?_ (by simp) _) | (refine Gr.trans ?_ (by assumption))))) hok hb' hr).mono ?_; rw [HZ.out]; rintro e w1 ⟨rfl, hg1⟩)
        | (go_at_call 49; refine (result_any ps _ _ (hE.gr (by repeat (with_reducible first | assumption | exact Gr.refl _ | apply Gr.alloc | apply Gr.drewN | apply Gr.drew | apply Gr.iter | (refine Gr.setCell ?_ (by simp) _) | (refine Gr.trans ?_ (by assumption))))) (hD.gr (by repeat (with_reducible first | assumption | exact Gr.refl _ | apply Gr.alloc | apply Gr.drewN | apply Gr.drew | apply Gr.iter | (refine Gr.setCell ?_ (by simp) _) | (refine Gr.trans ?_ (by assumption))))) hok hb' hr).mono ?_; rw [HR.out]; rintro e w2 ⟨rfl, hg2⟩; have f12 := (hE.gr (w' := w2) (by repeat (with_reducible first | assumption | exact Gr.refl _ | apply Gr.alloc | apply Gr.drewN | apply Gr.drew | apply Gr.iter | (refine Gr.setCell ?_ (by simp) _) | (refine Gr.trans ?_ (by assumption))))).e12))
      go_quiet (fail)
      go_wp2
      go_ret2
      exact ⟨ret_two rfl rfl, (by repeat (with_reducible first | assumption | exact Gr.refl _ | apply Gr.alloc | apply Gr.drewN | apply Gr.drew | apply Gr.iter | (refine Gr.setCell ?_ (by simp) _) | (refine Gr.trans ?_ (by assumption))))⟩
set_option maxHeartbeats 2000000 in
theorem told_good {ea : Nat → Addr} (ps : List Piece) (v vl : Value) (w : World) (hE : Env19 ea w) (hD : DeltaR w v ps) (hgood : ∀ p ∈ ps, p.good) (hl : RdOps w vl (ps.map Piece.op)) :
    Calls Tryz.prog 59 #[v, .nilIface, vl, .int .i64 0] w fun e w' => e = .returned (.bool true) ∧ Gr w w' := by
  obtain ⟨g1, sl1, rfl, hbd, hrd⟩ := hD
  have hD : DeltaR w (.pointer (some ⟨g1, 0, none⟩)) ps := ⟨g1, sl1, rfl, hbd, hrd⟩
  clear hbd hrd
  obtain ⟨a, n, c, rfl, -⟩ := hl.sl
  go_enter Tryz.func59, Tryz.ntmps59
  go_wp2_with (first
    | (go_at_call 21; rw [← errOf_zero ea]; refine (num_any 0 _ (hE.gr (by repeat (with_reducible first | assumption | exact Gr.refl _ | apply Gr.alloc | apply Gr.drewN | apply Gr.drew | apply Gr.iter | (refine Gr.setCell ?_ (by simp) _) | (refine Gr.trans ?_ (by assumption))))) (by omega) (by omega)).mono ?_; rintro e w1 ⟨rfl, hg1⟩)
    | (go_at_call 64; refine (is08_any ps (ps.map Piece.op) _ _ _ (hD.gr (by repeat (with_reducible first | assumption | exact Gr.refl _ | apply Gr.alloc | apply Gr.drewN | apply Gr.drew | apply Gr.iter | (refine Gr.setCell ?_ (by simp) _) | (refine Gr.trans ?_ (by assumption))))) hgood (RdOps.gr hl (by repeat (with_reducible first | assumption | exact Gr.refl _ | apply Gr.alloc | apply Gr.drewN | apply Gr.drew | apply Gr.iter | (refine Gr.setCell ?_ (by simp) _) | (refine Gr.trans ?_ (by assumption)))))).mono ?_; rw [decide_eq_true rfl]; rintro e w2 ⟨rfl, hg2⟩))
  go_ret
  exact ⟨rfl, (by repeat (with_reducible first | assumption | exact Gr.refl _ | apply Gr.alloc | apply Gr.drewN | apply Gr.drew | apply Gr.iter | (refine Gr.setCell ?_ (by simp) _) | (refine Gr.trans ?_ (by assumption))))⟩
set_option maxHeartbeats 2000000 in
theorem told_bad {ea : Nat → Addr} (E : Int) (vl : Value) (w : World) (hE : Env19 ea w) (h0 : 1 ≤ E) (h1 : E ≤ 19) :
    Calls Tryz.prog 59 #[.pointer none, errOf ea E, vl, .int .i64 E] w fun e w' => e = .returned (.bool true) ∧ Gr w w' := by
  have h0' : (E != 0) = true := by simp; omega
  go_enter Tryz.func59, Tryz.ntmps59
  go_wp2_with (go_at_call 21; refine (num_any E _ (hE.gr (by repeat (with_reducible first | assumption | exact Gr.refl _ | apply Gr.alloc | apply Gr.drewN | apply Gr.drew | apply Gr.iter | (refine Gr.setCell ?_ (by simp) _) | (refine Gr.trans ?_ (by assumption))))) (by omega) h1).mono ?_; rintro e w1 ⟨rfl, hg1⟩)
  go_ret
  exact ⟨rfl, (by repeat (with_reducible first | assumption | exact Gr.refl _ | apply Gr.alloc | apply Gr.drewN | apply Gr.drew | apply Gr.iter | (refine Gr.setCell ?_ (by simp) _) | (refine Gr.trans ?_ (by assumption))))⟩
end Ve
