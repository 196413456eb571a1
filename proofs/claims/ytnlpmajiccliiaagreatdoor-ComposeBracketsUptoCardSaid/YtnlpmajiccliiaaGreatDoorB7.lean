/- Walks of layer 6: Of. -/
import Derived.Test.YtnlpmajiccliiaaGreatDoorB6
import Derived.Test.YtnlpmajiccliiaaGreatDoorS3
set_option linter.all false
namespace Ve
open Go Go.RowKit Go.Proofs

/-- What build.Of answers. -/
def OfRes (ea : Nat → Addr) (r : Bld × Nat × Int) (w : World) (e : Ending) (w' : World) : Prop :=
  ∃ v', e = .returned (.tuple #[v', .int .i64 r.2.1, errOf ea r.2.2]) ∧ Gr w w' ∧ (r.2.2 = 0 → DeltaR w' v' r.1.delta) ∧ (r.2.2 ≠ 0 → v' = .pointer none)
set_option maxHeartbeats 2000000 in
theorem bof_any {ea : Nat → Addr} (l : List Op) (v : Value) (w : World) (hE : Env ea w) (hl : RdOps w v l) (hT : opsum l ≤ 1099511627776) (hN : 2 * l.length + 2 ≤ 1099511627776) :
    Calls Tryz.prog 44 #[v] w (OfRes ea (pushAll l) w) := by
  obtain ⟨a, n, cap, rfl, hcap, hm, hb, hn⟩ := hl.sl
  have HN := Lib.hid hN; clear hN
  have HT := Lib.hid hT; clear hT
  have hn2 : 2 * n + 2 ≤ 1099511627776 := by rw [← hn.out]; exact HN.out
  go_enter Tryz.func44, Tryz.ntmps44
  go_wp2_with (go_at_call 77; refine (new_any _).mono ?_; rintro e w1 ⟨rfl, hB1, hg1⟩)
  go_loopw [12] (fun i wr => ∃ (k : Nat) (s : Bld), k ≤ n ∧ i = .int .i64 k ∧ Gr w wr ∧ BldR w.heap.size wr w.heap.size s ∧ pushFrom s k (l.drop k) = pushAll l ∧ s.Inv (opsum (l.take k)) k) (fun i _ => n - (intOf i).toNat)
  case atStart => exact ⟨0, .new, Nat.zero_le _, rfl, hg1, hB1, rfl, Bld.Inv.new⟩
  case round =>
    obtain ⟨k, s, hk, rfl, hg, hB, ht, hI⟩ := hrel
    have Ht := Lib.hid ht; clear ht
    by_cases hlt : k < n
    · obtain ⟨b, off, xk, xt, xa, xb, xv, xc, ats, sl, hx, rfl, hr, c0, c1, c2, c3, c4, c5, c6, s1, s2⟩ := (RdOps.gr hl hg).at_ k hlt
      have Hx := Lib.hid hx; clear hx
      have hlt' : (k : Int) < n := by omega
      have hpl : s.pieces.length + 2 ≤ 1099511627776 := by have := hI.len; omega
      have hJ : checkOp ⟨xk, xt, ⟨xa, xb, xv⟩, xc, ats⟩ = 0 → s.fits (toPiece ⟨xk, xt, ⟨xa, xb, xv⟩, xc, ats⟩) = true → JoinOk s.pieces (toPiece ⟨xk, xt, ⟨xa, xb, xv⟩, xc, ats⟩) := fun h1 h2 =>
        hI.joinOk h2 (len_ok h1 s1).1 (by
          have e1 := tsize_of (o := ⟨xk, xt, ⟨xa, xb, xv⟩, xc, ats⟩)
          have e2 := opsum_take Hx.out
          have e3 := opsum_take_le l (k + 1)
          have e4 := HT.out
          simp only at e1 e2
          omega)
      have HJ := Lib.hid hJ; clear hJ
      obtain ⟨R, hR⟩ : ∃ R, (s.push ⟨xk, xt, ⟨xa, xb, xv⟩, xc, ats⟩).2 = R := ⟨_, rfl⟩
      have HR := Lib.hid hR; clear hR
      have HI := Lib.hid hI
      obtain ⟨i1, i2, i3, i4, i5, i6, -, -, -, -, -⟩ := hI
      obtain ⟨sa, sc, hsl, -⟩ := RdList.slice hr
      subst hsl
      by_cases h0 : R = 0
      · have h0' : decide (R = 0) = true := by simpa using h0
        have H0 := Lib.hid h0; clear h0
        go_wp2_with (go_at_call 80; refine (push_any w.heap.size w.heap.size s xk xt xa xb xv xc _ ats _ w hE (by repeat (with_reducible first | assumption | exact Gr.refl _ | apply Gr.alloc | apply Gr.drewN | apply Gr.drew | apply Gr.iter | (refine Gr.setCell ?_ (by simp) _) | (refine Gr.trans ?_ (by assumption)))) (Nat.le_refl _) (RdAttrs.gr (w := wr) hr (by repeat (with_reducible first | assumption | exact Gr.refl _ | apply Gr.alloc | apply Gr.drewN | apply Gr.drew | apply Gr.iter | (refine Gr.setCell ?_ (by simp) _) | (refine Gr.trans ?_ (by assumption))))) s1 s2 (BldR.gr (w := wr) hB (by repeat (with_reducible first | assumption | exact Gr.refl _ | apply Gr.alloc | apply Gr.drewN | apply Gr.drew | apply Gr.iter | (refine Gr.setCell ?_ (by simp) _) | (refine Gr.trans ?_ (by assumption))))) i1 i2 i3 i4 i5 (Int.le_trans i6 i2) hpl HJ.out).mono ?_; rw [HR.out]; rintro e w2 ⟨rfl, hk2, hB2⟩)
        go_roundw
        case rel =>
          have hpo : (s.push ⟨xk, xt, ⟨xa, xb, xv⟩, xc, ats⟩).2 = 0 := HR.out.trans H0.out
          refine ⟨k + 1, _, by omega, by go_num, Gr.kg (w := _) (by repeat (with_reducible first | assumption | exact Gr.refl _ | apply Gr.alloc | apply Gr.drewN | apply Gr.drew | apply Gr.iter | (refine Gr.setCell ?_ (by simp) _) | (refine Gr.trans ?_ (by assumption)))) hk2 (Nat.le_refl _), hB2, ?_, ?_⟩
          · rw [← Ht.out, drop_cons Hx.out, pushFrom_ok hpo]
          · rw [opsum_take Hx.out]; exact HI.out.push hpo s1
        case measure => simp [intOf]; omega
      · have h0' : decide (R = 0) = false := by simpa using h0
        have H0 := Lib.hid h0; clear h0
        go_wp2_with (go_at_call 80; refine (push_any w.heap.size w.heap.size s xk xt xa xb xv xc _ ats _ w hE (by repeat (with_reducible first | assumption | exact Gr.refl _ | apply Gr.alloc | apply Gr.drewN | apply Gr.drew | apply Gr.iter | (refine Gr.setCell ?_ (by simp) _) | (refine Gr.trans ?_ (by assumption)))) (Nat.le_refl _) (RdAttrs.gr (w := wr) hr (by repeat (with_reducible first | assumption | exact Gr.refl _ | apply Gr.alloc | apply Gr.drewN | apply Gr.drew | apply Gr.iter | (refine Gr.setCell ?_ (by simp) _) | (refine Gr.trans ?_ (by assumption))))) s1 s2 (BldR.gr (w := wr) hB (by repeat (with_reducible first | assumption | exact Gr.refl _ | apply Gr.alloc | apply Gr.drewN | apply Gr.drew | apply Gr.iter | (refine Gr.setCell ?_ (by simp) _) | (refine Gr.trans ?_ (by assumption))))) i1 i2 i3 i4 i5 (Int.le_trans i6 i2) hpl HJ.out).mono ?_; rw [HR.out]; rintro e w2 ⟨rfl, hk2, hB2⟩)
        go_ret3
        have hpo : (s.push ⟨xk, xt, ⟨xa, xb, xv⟩, xc, ats⟩).2 ≠ 0 := by rw [HR.out]; exact H0.out
        have hb : pushAll l = (s, k, R) := by rw [← Ht.out, drop_cons Hx.out, pushFrom_bad hpo, HR.out]
        rw [hb]
        exact ⟨_, ret_three rfl rfl rfl, Gr.kg (w := _) (by repeat (with_reducible first | assumption | exact Gr.refl _ | apply Gr.alloc | apply Gr.drewN | apply Gr.drew | apply Gr.iter | (refine Gr.setCell ?_ (by simp) _) | (refine Gr.trans ?_ (by assumption)))) hk2 (Nat.le_refl _), fun h => absurd h H0.out, fun _ => rfl⟩
    · obtain rfl : k = n := by omega
      have hl0 : l.drop k = [] := List.drop_eq_nil_of_le (by rw [hn.out]; exact Nat.le_refl _)
      have hb : pushAll l = (s, 0, 0) := by rw [← Ht.out, hl0]; rfl
      have Hb := Lib.hid hb; clear hb hl0
      have hpl : s.pieces.length + 1 ≤ 1099511627776 := by have := hI.len; omega
      clear hI
      go_wp2_with (go_at_call 88; refine (delta_any w.heap.size w.heap.size s _ (BldR.gr (w := wr) hB (by repeat (with_reducible first | assumption | exact Gr.refl _ | apply Gr.alloc | apply Gr.drewN | apply Gr.drew | apply Gr.iter | (refine Gr.setCell ?_ (by simp) _) | (refine Gr.trans ?_ (by assumption))))) hpl).mono ?_; rintro e w2 ⟨v2, rfl, hd2, hg2⟩; obtain ⟨g2, sl2, rfl, hd2⟩ := hd2)
      go_ret3
      rw [Hb.out]
      exact ⟨_, ret_three rfl rfl (errOf_zero ea).symm, (by repeat (with_reducible first | assumption | exact Gr.refl _ | apply Gr.alloc | apply Gr.drewN | apply Gr.drew | apply Gr.iter | (refine Gr.setCell ?_ (by simp) _) | (refine Gr.trans ?_ (by assumption)))), fun _ => ⟨_, _, rfl, hd2⟩, fun h => absurd rfl h⟩
end Ve
/- The builder with its blocks told: Push writes those alone. -/
namespace Ve
open Go Go.RowKit Go.Proofs

/-- The builder block g reads as s; its pieces lie in the row's block. -/
def BldX (w : World) (g : Nat) (row : Option Nat) (s : Bld) : Prop :=
  ∃ sl, Blk w g 153 #[.int .i64 s.base, .int .i64 s.result, sl, .int .i64 s.gone] ∧ OwnL PieceR 1 0 109 w sl s.pieces ∧ sl.ownBlock = row
/-- The blocks that a builder may write: its own, its row's, new ones. -/
abbrev bldS (w : World) (g : Nat) (row : Option Nat) : Nat → Prop := fun b => b = g ∨ row = some b ∨ w.heap.size ≤ b
section
variable {w w' : World} {g : Nat} {row : Option Nat} {s : Bld}
theorem BldX.f (h : BldX w g row s) : BldF (bldS w g row) w g s := by
  obtain ⟨sl, hB, ho, e⟩ := h
  subst e
  exact ⟨.inl rfl, sl, hB, ho, fun b hb => .inr (.inl hb)⟩
theorem BldX.gr (h : BldX w g row s) (k : Gr w w') : BldX w' g row s := by
  obtain ⟨sl, hB, ho, e⟩ := h
  exact ⟨sl, hB.gr k, OwnL.gr (w := w) ho (fun _ _ h => h.gr k) k, e⟩
theorem BldX.kg {S : Nat → Prop} {E : TypeId → Bool} (h : BldX w g row s) (k : Kg S E w w') (h1 : E 176 = false) (h2 : E 109 = false) (h3 : E 153 = false) : BldX w' g row s := by
  obtain ⟨sl, hB, ho, e⟩ := h
  exact ⟨sl, hB.kg k h3, OwnL.kg (w := w) ho (fun _ _ h => h.kg k h1) k h2, e⟩
theorem BldX.lt (h : BldX w g row s) : g < w.heap.size := by
  obtain ⟨sl, hB, -⟩ := h
  exact hB.lt
end
end Ve
