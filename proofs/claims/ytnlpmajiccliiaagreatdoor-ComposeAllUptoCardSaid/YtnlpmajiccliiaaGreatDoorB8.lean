/- Walks of layer 6: Delta and Of, what they make told with its types. -/
import Derived.Test.YtnlpmajiccliiaaGreatDoorGR
import Derived.Test.YtnlpmajiccliiaaGreatDoorB7
import Derived.Test.YtnlpmajiccliiaaGreatDoorS3
set_option linter.all false
namespace Ve
open Go Go.RowKit Go.Proofs


/-- A delta whose rows are of a call's own making: of types told. -/
def DeltaT (w : World) (v : Value) (l : List Piece) : Prop := ∃ g sl base, v = .pointer (some ⟨g, 0, none⟩) ∧ Blk w g 97 #[sl] ∧ OwnL PieceR 1 base 109 w sl l ∧ l.length ≤ 1099511627776
theorem DeltaT.r {w : World} {v : Value} {l : List Piece} (h : DeltaT w v l) : DeltaR w v l := by
  obtain ⟨g, sl, base, e, hb, ho, hl⟩ := h
  exact ⟨g, sl, e, hb, OwnL.rd ho hl⟩
theorem DeltaT.gr {w w' : World} {v : Value} {l : List Piece} (h : DeltaT w v l) (g : Gr w w') : DeltaT w' v l := by
  obtain ⟨b, sl, base, e, hb, ho, hl⟩ := h
  exact ⟨b, sl, base, e, hb.gr g, OwnL.gr (w := w) ho (fun _ _ h => PieceR.gr (w := w) h g) g, hl⟩
theorem DeltaT.kg {S : Nat → Prop} {E : TypeId → Bool} {w w' : World} {v : Value} {l : List Piece} (h : DeltaT w v l) (k : Kg S E w w') (h1 : E 97 = false) (h2 : E 109 = false) (h3 : E 176 = false) : DeltaT w' v l := by
  obtain ⟨b, sl, base, e, hb, ho, hl⟩ := h
  exact ⟨b, sl, base, e, hb.kg k h1, OwnL.kg (w := w) ho (fun _ _ h => PieceR.kg (w := w) h k h3) k h2, hl⟩
theorem DeltaT.new {w : World} {base i : Nat} {v : Value} {l : List Piece} (h : OwnL PieceR 1 base 109 w v l) (hb : l.length ≤ 1099511627776) (hi : i = w.heap.size) : DeltaT (w.alloc (.cells #[v] 97)) (.pointer (some ⟨i, 0, none⟩)) l := by
  subst hi
  exact ⟨_, v, base, rfl, Blk.new _ _ _, OwnL.gr (w := w) h (fun _ _ h => PieceR.gr (w := w) h ((Gr.refl w).alloc _)) ((Gr.refl w).alloc _), hb⟩
theorem empty_t (w : World) : Calls Tryz.prog 41 #[] w fun e w' => ∃ v, e = .returned v ∧ DeltaT w' v [] ∧ Gr w w' := by
  go_enter Tryz.func41, Tryz.ntmps41
  go_wp2
  go_ret
  exact ⟨_, rfl, ⟨_, _, 0, rfl, Blk.new _ _ _, OwnL.nil .., by simp⟩, grOf⟩
set_option maxRecDepth 4000 in
set_option maxHeartbeats 4000000 in
theorem delta_t (S : Nat → Prop) (g : Nat) (s : Bld) (w : World) (hB : BldF S w g s) (hm : s.pieces.length + 1 ≤ 1099511627776) :
    Calls Tryz.prog 88 #[.pointer (some ⟨g, 0, none⟩)] w fun e w' => ∃ v, e = .returned v ∧ DeltaT w' v s.delta ∧ Gr w w' := by
  obtain ⟨sb, sr, sp, sg⟩ := s
  obtain ⟨hbg, psl, hB, hO, -⟩ := hB
  simp only at hB hO hm
  have hR : RdPieces w psl sp := OwnL.rd hO (by omega)
  obtain ⟨pa, pn, pc, rfl, -⟩ := hR.sl
  have hb := hB.cell
  obtain ⟨L, hL⟩ : ∃ L, deletedL sp sg = L := ⟨_, rfl⟩
  have HL := Lib.hid hL
  have hlen : L.length ≤ 1099511627776 := by rw [← hL]; unfold deletedL; split <;> (try simp) <;> omega
  rw [show Bld.delta ⟨sb, sr, sp, sg⟩ = trimmed L from by rw [← hL]; rfl]
  clear hL
  cases hq : L.getLast? with
  | none =>
    have hl0 : L = [] := List.getLast?_eq_none_iff.1 hq
    subst hl0
    go_enter Tryz.func88, Tryz.ntmps88
    go_wp2
    go_region_with (first | (go_at_call 129; refine (cloneP_any sp _ _ (RdPieces.gr hR grOf)).mono ?_; rintro e w1 ⟨v1, rfl, ho1, hg1⟩; obtain ⟨a1, n1, c1, rfl, -⟩ := ho1.sl; have b1 := (Blk.gr (w' := w1) hB grOf).cell) | (go_at_call 123; refine (deleted_any w.heap.size sp _ sg _ (OwnL.base_le (OwnL.gr (w := w1) ho1 (fun _ _ h => PieceR.gr (w := w1) h grOf) grOf) (Gr.size (w := w) grOf)) (Gr.size (w := w) grOf) hm).mono ?_; rintro e w2 ⟨v2, rfl, ho2, hk2⟩; obtain ⟨a2, n2, c2, rfl, hcap2, hcm2, hn2⟩ := ho2.sl; rw [HL.out] at ho2 hn2; have hgw : Gr w w2 := Gr.kg (w := _) grOf hk2 (Nat.le_refl _); have e0 : n2 = 0 := hn2.out.symm; subst e0))
    all_goals
      go_wp2_with (go_at_call 41; refine (empty_t _).mono ?_; rintro e w3 ⟨v3, rfl, hd3, hg3⟩; obtain ⟨g3, sl3, bs3, rfl, hd3⟩ := hd3)
      go_ret
      exact ⟨_, rfl, ⟨_, _, _, rfl, hd3⟩, grOf⟩
  | some q =>
    have Hq := Lib.hid hq
    have hne : L ≠ [] := by rintro rfl; simp at hq
    obtain ⟨m, hm1⟩ : ∃ m, L.length = m + 1 := ⟨L.length - 1, by have := List.length_pos_iff.2 hne; omega⟩
    have Hm := Lib.hid hm1
    have hq1 : L[m]? = some q := by rw [List.getLast?_eq_getElem?, hm1] at hq; exact hq
    have Hq1 := Lib.hid hq1
    clear hq hm1 hq1
    cases q with
    | del n =>
      go_enter Tryz.func88, Tryz.ntmps88
      go_wp2
      go_region_with (first | (go_at_call 129; refine (cloneP_any sp _ _ (RdPieces.gr hR grOf)).mono ?_; rintro e w1 ⟨v1, rfl, ho1, hg1⟩; obtain ⟨a1, n1, c1, rfl, -⟩ := ho1.sl; have b1 := (Blk.gr (w' := w1) hB grOf).cell) | (go_at_call 123; refine (deleted_any w.heap.size sp _ sg _ (OwnL.base_le (OwnL.gr (w := w1) ho1 (fun _ _ h => PieceR.gr (w := w1) h grOf) grOf) (Gr.size (w := w) grOf)) (Gr.size (w := w) grOf) hm).mono ?_; rintro e w2 ⟨v2, rfl, ho2, hk2⟩; obtain ⟨a2, n2, c2, rfl, hcap2, hcm2, hn2⟩ := ho2.sl; rw [HL.out] at ho2 hn2; have hgw : Gr w w2 := Gr.kg (w := _) grOf hk2 (Nat.le_refl _); have e0 : n2 = m + 1 := hn2.out.symm.trans Hm.out; subst e0; obtain ⟨g2, q2, qv, hx2, rfl, hbg2, hc2, hf2, hq2⟩ := OwnP.at_ ho2 m (by omega); have e1 := Option.some.inj (hx2.symm.trans Hq1.out); subst e1; have Ho2 := Lib.hid ho2; clear ho2; simp only [PieceV] at hq2; subst hq2))
      all_goals
        go_wp2
        go_ret
        exact ⟨_, rfl, by rw [trimmed_keep Hq.out (by simp)]; exact DeltaT.new (OwnL.gr (w := w2) Ho2.out (fun _ _ h => PieceR.gr (w := w2) h grOf) grOf) hlen (by simp), grOf⟩
    | ins l2 t2 n3 =>
      go_enter Tryz.func88, Tryz.ntmps88
      go_wp2
      go_region_with (first | (go_at_call 129; refine (cloneP_any sp _ _ (RdPieces.gr hR grOf)).mono ?_; rintro e w1 ⟨v1, rfl, ho1, hg1⟩; obtain ⟨a1, n1, c1, rfl, -⟩ := ho1.sl; have b1 := (Blk.gr (w' := w1) hB grOf).cell) | (go_at_call 123; refine (deleted_any w.heap.size sp _ sg _ (OwnL.base_le (OwnL.gr (w := w1) ho1 (fun _ _ h => PieceR.gr (w := w1) h grOf) grOf) (Gr.size (w := w) grOf)) (Gr.size (w := w) grOf) hm).mono ?_; rintro e w2 ⟨v2, rfl, ho2, hk2⟩; obtain ⟨a2, n2, c2, rfl, hcap2, hcm2, hn2⟩ := ho2.sl; rw [HL.out] at ho2 hn2; have hgw : Gr w w2 := Gr.kg (w := _) grOf hk2 (Nat.le_refl _); have e0 : n2 = m + 1 := hn2.out.symm.trans Hm.out; subst e0; obtain ⟨g2, q2, qv, hx2, rfl, hbg2, hc2, hf2, hq2⟩ := OwnP.at_ ho2 m (by omega); have e1 := Option.some.inj (hx2.symm.trans Hq1.out); subst e1; have Ho2 := Lib.hid ho2; clear ho2; obtain ⟨ps, rfl, hpa, hps⟩ := hq2; obtain ⟨pa', pn', pc', rfl, -⟩ := hpa.1.sl))
      all_goals
        go_wp2
        go_ret
        exact ⟨_, rfl, by rw [trimmed_keep Hq.out (by simp)]; exact DeltaT.new (OwnL.gr (w := w2) Ho2.out (fun _ _ h => PieceR.gr (w := w2) h grOf) grOf) hlen (by simp), grOf⟩
    | emb l2 t2 x2 =>
      obtain ⟨T1, y1, hv1⟩ := valV_form x2
      have hv1 := Lib.hid hv1
      go_enter Tryz.func88, Tryz.ntmps88
      go_wp2
      go_region_with (first | (go_at_call 129; refine (cloneP_any sp _ _ (RdPieces.gr hR grOf)).mono ?_; rintro e w1 ⟨v1, rfl, ho1, hg1⟩; obtain ⟨a1, n1, c1, rfl, -⟩ := ho1.sl; have b1 := (Blk.gr (w' := w1) hB grOf).cell) | (go_at_call 123; refine (deleted_any w.heap.size sp _ sg _ (OwnL.base_le (OwnL.gr (w := w1) ho1 (fun _ _ h => PieceR.gr (w := w1) h grOf) grOf) (Gr.size (w := w) grOf)) (Gr.size (w := w) grOf) hm).mono ?_; rintro e w2 ⟨v2, rfl, ho2, hk2⟩; obtain ⟨a2, n2, c2, rfl, hcap2, hcm2, hn2⟩ := ho2.sl; rw [HL.out] at ho2 hn2; have hgw : Gr w w2 := Gr.kg (w := _) grOf hk2 (Nat.le_refl _); have e0 : n2 = m + 1 := hn2.out.symm.trans Hm.out; subst e0; obtain ⟨g2, q2, qv, hx2, rfl, hbg2, hc2, hf2, hq2⟩ := OwnP.at_ ho2 m (by omega); have e1 := Option.some.inj (hx2.symm.trans Hq1.out); subst e1; have Ho2 := Lib.hid ho2; clear ho2; obtain ⟨ps, rfl, hpa, hps, hps'⟩ := hq2; obtain ⟨pa', pn', pc', rfl, -⟩ := hpa.1.sl; rw [hv1.out] at hc2))
      all_goals
        go_wp2
        go_ret
        exact ⟨_, rfl, by rw [trimmed_keep Hq.out (by simp)]; exact DeltaT.new (OwnL.gr (w := w2) Ho2.out (fun _ _ h => PieceR.gr (w := w2) h grOf) grOf) hlen (by simp), grOf⟩
    | ret l2 n3 =>
      rcases l2 with _ | ⟨x, xs⟩
      · go_enter Tryz.func88, Tryz.ntmps88
        go_wp2
        go_region_with (first | (go_at_call 129; refine (cloneP_any sp _ _ (RdPieces.gr hR grOf)).mono ?_; rintro e w1 ⟨v1, rfl, ho1, hg1⟩; obtain ⟨a1, n1, c1, rfl, -⟩ := ho1.sl; have b1 := (Blk.gr (w' := w1) hB grOf).cell) | (go_at_call 123; refine (deleted_any w.heap.size sp _ sg _ (OwnL.base_le (OwnL.gr (w := w1) ho1 (fun _ _ h => PieceR.gr (w := w1) h grOf) grOf) (Gr.size (w := w) grOf)) (Gr.size (w := w) grOf) hm).mono ?_; rintro e w2 ⟨v2, rfl, ho2, hk2⟩; obtain ⟨a2, n2, c2, rfl, hcap2, hcm2, hn2⟩ := ho2.sl; rw [HL.out] at ho2 hn2; have hgw : Gr w w2 := Gr.kg (w := _) grOf hk2 (Nat.le_refl _); have e0 : n2 = m + 1 := hn2.out.symm.trans Hm.out; subst e0; obtain ⟨g2, q2, qv, hx2, rfl, hbg2, hc2, hf2, hq2⟩ := OwnP.at_ ho2 m (by omega); have e1 := Option.some.inj (hx2.symm.trans Hq1.out); subst e1; have Ho2 := Lib.hid ho2; clear ho2; obtain ⟨ps, rfl, hpa⟩ := hq2; obtain ⟨pa', pn', pc', rfl, -, -, hpn⟩ := hpa.1.sl; have e2 : pn' = 0 := hpn.out.symm; subst e2))
        all_goals
          go_wp2
          go_ret
          exact ⟨_, rfl, by rw [trimmed_ret Hq.out]; exact DeltaT.new (OwnP.pop (OwnL.gr (w := w2) Ho2.out (fun _ _ h => PieceR.gr (w := w2) h grOf) grOf)) (by simp; omega) (by simp), grOf⟩
      · go_enter Tryz.func88, Tryz.ntmps88
        go_wp2
        go_region_with (first | (go_at_call 129; refine (cloneP_any sp _ _ (RdPieces.gr hR grOf)).mono ?_; rintro e w1 ⟨v1, rfl, ho1, hg1⟩; obtain ⟨a1, n1, c1, rfl, -⟩ := ho1.sl; have b1 := (Blk.gr (w' := w1) hB grOf).cell) | (go_at_call 123; refine (deleted_any w.heap.size sp _ sg _ (OwnL.base_le (OwnL.gr (w := w1) ho1 (fun _ _ h => PieceR.gr (w := w1) h grOf) grOf) (Gr.size (w := w) grOf)) (Gr.size (w := w) grOf) hm).mono ?_; rintro e w2 ⟨v2, rfl, ho2, hk2⟩; obtain ⟨a2, n2, c2, rfl, hcap2, hcm2, hn2⟩ := ho2.sl; rw [HL.out] at ho2 hn2; have hgw : Gr w w2 := Gr.kg (w := _) grOf hk2 (Nat.le_refl _); have e0 : n2 = m + 1 := hn2.out.symm.trans Hm.out; subst e0; obtain ⟨g2, q2, qv, hx2, rfl, hbg2, hc2, hf2, hq2⟩ := OwnP.at_ ho2 m (by omega); have e1 := Option.some.inj (hx2.symm.trans Hq1.out); subst e1; have Ho2 := Lib.hid ho2; clear ho2; obtain ⟨ps, rfl, hpa⟩ := hq2; obtain ⟨pa', pn', pc', rfl, -, -, hpn⟩ := hpa.1.sl; obtain ⟨pn'', rfl⟩ : ∃ z, pn' = z + 1 := ⟨xs.length, hpn.out.symm⟩))
        all_goals
          go_wp2
          go_ret
          exact ⟨_, rfl, by rw [trimmed_keep Hq.out (by simp)]; exact DeltaT.new (OwnL.gr (w := w2) Ho2.out (fun _ _ h => PieceR.gr (w := w2) h grOf) grOf) hlen (by simp), grOf⟩


def OfResT (ea : Nat → Addr) (r : Bld × Nat × Int) (w : World) (e : Ending) (w' : World) : Prop :=
  ∃ v', e = .returned (.tuple #[v', .int .i64 r.2.1, errOf ea r.2.2]) ∧ Gr w w' ∧ (r.2.2 = 0 → DeltaT w' v' r.1.delta) ∧ (r.2.2 ≠ 0 → v' = .pointer none)
set_option maxHeartbeats 2000000 in
theorem bof_t {ea : Nat → Addr} (l : List Op) (v : Value) (w : World) (hE : Env ea w) (hl : RdOps w v l) (hT : opsum l ≤ 1099511627776) (hN : 2 * l.length + 2 ≤ 1099511627776) :
    Calls Tryz.prog 44 #[v] w (OfResT ea (pushAll l) w) := by
  obtain ⟨a, n, cap, rfl, hcap, hm, hb, hn⟩ := hl.sl
  have HN := Lib.hid hN; clear hN
  have HT := Lib.hid hT; clear hT
  have hn2 : 2 * n + 2 ≤ 1099511627776 := by rw [← hn.out]; exact HN.out
  go_enter Tryz.func44, Tryz.ntmps44
  go_wp2_with (go_at_call 77; refine (new_any _).mono ?_; rintro e w1 ⟨rfl, hB1, hg1⟩)
  go_loopw [12] (fun i wr => ∃ (k : Nat) (s : Bld), k ≤ n ∧ i = .int .i64 k ∧ Gr w wr ∧ BldR w.heap.size wr w.heap.size s ∧ pushFrom s k (l.drop k) = pushAll l ∧ s.Inv (opsum (l.take k)) k) (fun i _ => n - (intOf i).toNat)
  case atStart => exact ⟨0, .new, Nat.zero_le _, rfl, hg1, hB1, rfl, Bld.Inv.new⟩
  case round =>
    obtain ⟨k, s, hk, rfl, hg, hB, ht, hI⟩ := hrel
    have Ht := Lib.hid ht; clear ht
    by_cases hlt : k < n
    · obtain ⟨b, off, xk, xt, xa, xb, xv, xc, ats, sl, hx, rfl, hr, c0, c1, c2, c3, c4, c5, c6, s1, s2⟩ := (RdOps.gr hl hg).at_ k hlt
      have Hx := Lib.hid hx; clear hx
      have hlt' : (k : Int) < n := by omega
      have hpl : s.pieces.length + 2 ≤ 1099511627776 := by have := hI.len; omega
      have hJ : checkOp ⟨xk, xt, ⟨xa, xb, xv⟩, xc, ats⟩ = 0 → s.fits (toPiece ⟨xk, xt, ⟨xa, xb, xv⟩, xc, ats⟩) = true → JoinOk s.pieces (toPiece ⟨xk, xt, ⟨xa, xb, xv⟩, xc, ats⟩) := fun h1 h2 =>
        hI.joinOk h2 (len_ok h1 s1).1 (by
          have e1 := tsize_of (o := ⟨xk, xt, ⟨xa, xb, xv⟩, xc, ats⟩)
          have e2 := opsum_take Hx.out
          have e3 := opsum_take_le l (k + 1)
          have e4 := HT.out
          simp only at e1 e2
          omega)
      have HJ := Lib.hid hJ; clear hJ
      obtain ⟨R, hR⟩ : ∃ R, (s.push ⟨xk, xt, ⟨xa, xb, xv⟩, xc, ats⟩).2 = R := ⟨_, rfl⟩
      have HR := Lib.hid hR; clear hR
      have HI := Lib.hid hI
      obtain ⟨i1, i2, i3, i4, i5, i6, -, -, -, -, -⟩ := hI
      obtain ⟨sa, sc, hsl, -⟩ := RdList.slice hr
      subst hsl
      by_cases h0 : R = 0
      · have h0' : decide (R = 0) = true := by simpa using h0
        have H0 := Lib.hid h0; clear h0
        go_wp2_with (go_at_call 80; refine (push_any w.heap.size w.heap.size s xk xt xa xb xv xc _ ats _ w hE grOf (Nat.le_refl _) (RdAttrs.gr (w := wr) hr grOf) s1 s2 (BldR.gr (w := wr) hB grOf) i1 i2 i3 i4 i5 (Int.le_trans i6 i2) hpl HJ.out).mono ?_; rw [HR.out]; rintro e w2 ⟨rfl, hk2, hB2⟩)
        go_roundw
        case rel =>
          have hpo : (s.push ⟨xk, xt, ⟨xa, xb, xv⟩, xc, ats⟩).2 = 0 := HR.out.trans H0.out
          refine ⟨k + 1, _, by omega, by go_num, Gr.kg (w := _) grOf hk2 (Nat.le_refl _), hB2, ?_, ?_⟩
          · rw [← Ht.out, drop_cons Hx.out, pushFrom_ok hpo]
          · rw [opsum_take Hx.out]; exact HI.out.push hpo s1
        case measure => simp [intOf]; omega
      · have h0' : decide (R = 0) = false := by simpa using h0
        have H0 := Lib.hid h0; clear h0
        go_wp2_with (go_at_call 80; refine (push_any w.heap.size w.heap.size s xk xt xa xb xv xc _ ats _ w hE grOf (Nat.le_refl _) (RdAttrs.gr (w := wr) hr grOf) s1 s2 (BldR.gr (w := wr) hB grOf) i1 i2 i3 i4 i5 (Int.le_trans i6 i2) hpl HJ.out).mono ?_; rw [HR.out]; rintro e w2 ⟨rfl, hk2, hB2⟩)
        go_ret3
        have hpo : (s.push ⟨xk, xt, ⟨xa, xb, xv⟩, xc, ats⟩).2 ≠ 0 := by rw [HR.out]; exact H0.out
        have hb : pushAll l = (s, k, R) := by rw [← Ht.out, drop_cons Hx.out, pushFrom_bad hpo, HR.out]
        rw [hb]
        exact ⟨_, ret_three rfl rfl rfl, Gr.kg (w := _) grOf hk2 (Nat.le_refl _), fun h => absurd h H0.out, fun _ => rfl⟩
    · obtain rfl : k = n := by omega
      have hl0 : l.drop k = [] := List.drop_eq_nil_of_le (by rw [hn.out]; exact Nat.le_refl _)
      have hb : pushAll l = (s, 0, 0) := by rw [← Ht.out, hl0]; rfl
      have Hb := Lib.hid hb; clear hb hl0
      have hpl : s.pieces.length + 1 ≤ 1099511627776 := by have := hI.len; omega
      clear hI
      go_wp2_with (go_at_call 88; refine (delta_t (Fr w.heap.size) w.heap.size s _ (BldR.gr (w := wr) hB grOf) hpl).mono ?_; rintro e w2 ⟨v2, rfl, hd2, hg2⟩; obtain ⟨g2, sl2, bs2, rfl, hd2⟩ := hd2)
      go_ret3
      rw [Hb.out]
      exact ⟨_, ret_three rfl rfl (errOf_zero ea).symm, grOf, fun _ => ⟨_, _, _, rfl, hd2⟩, fun h => absurd rfl h⟩

end Ve
