/- Walks of layer 6: lengths.add. -/
import Derived.Test.YtnlpmajiccliiaaGreatDoorB1
import Derived.StillTailTactics
set_option linter.all false
namespace Ve
open Go Go.RowKit Go.Proofs

def addV (s : Bld) (p : Piece) (b : Bool) : Int × Int := if b then (s.base + p.b, s.result + p.r) else (s.base, s.result)
set_option maxRecDepth 4000 in
set_option maxHeartbeats 1000000 in
theorem add_any (S : Nat → Prop) (g : Nat) (sb sr gone : Int) (sl : Value) (p : Piece) (v : Value) (w : World) (hB : Blk w g 153 #[.int .i64 sb, .int .i64 sr, sl, .int .i64 gone]) (hb : S g) (hp : PieceV w p v)
    (h1 : 0 ≤ sb) (h2 : sb ≤ 1099511627776) (h3 : 0 ≤ sr) (h4 : sr ≤ 1099511627776) (h5 : 0 ≤ p.len) (h6 : p.len ≤ 1099511627776) :
    Calls Tryz.prog 122 #[.pointer (some ⟨g, 0, none⟩), v] w fun e w' => e = .returned (.bool (Bld.fits ⟨sb, sr, [], gone⟩ p)) ∧ Kg S bT w w' ∧
      Blk w' g 153 #[.int .i64 (addV ⟨sb, sr, [], gone⟩ p (Bld.fits ⟨sb, sr, [], gone⟩ p)).1, .int .i64 (addV ⟨sb, sr, [], gone⟩ p (Bld.fits ⟨sb, sr, [], gone⟩ p)).2, sl, .int .i64 gone] := by
  simp only [Piece.len] at h5 h6
  have hc := hB.cell
  have hf := hB.frozen
  cases p with
  | ins l t n =>
    obtain ⟨ps, rfl, ho, -⟩ := hp
    obtain ⟨a, m, c, rfl, -⟩ := ho.1.sl
    by_cases hq : n ≤ 1099511627776 - sr
    · go_enter Tryz.func122, Tryz.ntmps122
      go_wp2_with (go_at_call 227; refine (insLen_any _ _ _ _ ⟨_, _, _, rfl⟩).mono ?_; rintro e w' ⟨rfl, hg⟩; have hBk := Blk.gr (w' := w') hB (by repeat (with_reducible first | assumption | exact Gr.refl _ | apply Gr.alloc | apply Gr.drewN | apply Gr.drew | apply Gr.iter | (refine Gr.setCell ?_ (by simp) _) | (refine Gr.trans ?_ (by assumption)))); have hB' := (Blk.gr (w' := w') hB (by repeat (with_reducible first | assumption | exact Gr.refl _ | apply Gr.alloc | apply Gr.drewN | apply Gr.drew | apply Gr.iter | (refine Gr.setCell ?_ (by simp) _) | (refine Gr.trans ?_ (by assumption))))).cell; have hF' := (Blk.gr (w' := w') hB (by repeat (with_reducible first | assumption | exact Gr.refl _ | apply Gr.alloc | apply Gr.drewN | apply Gr.drew | apply Gr.iter | (refine Gr.setCell ?_ (by simp) _) | (refine Gr.trans ?_ (by assumption))))).frozen; have hz' := (Blk.gr (w' := w') hB (by repeat (with_reducible first | assumption | exact Gr.refl _ | apply Gr.alloc | apply Gr.drewN | apply Gr.drew | apply Gr.iter | (refine Gr.setCell ?_ (by simp) _) | (refine Gr.trans ?_ (by assumption))))).lt)
      have w1 : IntKind.i64.wrap (1099511627776 - sb) = 1099511627776 - sb := IntWalk.i64_in _ (by omega)
      have w2 : IntKind.i64.wrap (1099511627776 - sr) = 1099511627776 - sr := IntWalk.i64_in _ (by omega)
      have d1 : decide (1099511627776 - sb < 0) = false := by simp; omega
      have d2 : decide (1099511627776 - sr < n) = false := by simp; omega
      go_quiet (fail)
      clear w1 w2 d1 d2
      go_wp2
      go_region
      go_wp2
      go_region
      go_wp2
      go_ret
      refine ⟨ret_bool ?_, ?_, ?_⟩
      · show true = decide (sb + 0 ≤ 1099511627776 ∧ sr + n ≤ 1099511627776); first | exact (decide_eq_true (by omega)).symm | exact (decide_eq_false (by omega)).symm
      · (repeat (with_reducible first | exact Kg.refl _ | assumption | refine Kg.alloc ?_ _ | refine Kg.drewN ?_ _ | refine Kg.drew ?_ | (refine Kg.setB (e := 153) ?_ (by (repeat (with_reducible first | assumption | (apply Blk.bt; assumption) | (refine BT.set ?_ _ _) | (refine BT.far ?_ (by simp; omega) _) | refine BT.alloc ?_ _ | refine BT.drewN ?_ _ | refine BT.drew ?_ | (refine BT.gr ?_ (by assumption))))) (by decide) (by assumption) _ _) | (refine Kg.setNew ?_ (by simp; omega) _) | (refine Kg.trans_gr ?_ (by assumption)) | (refine Kg.trans ?_ (by assumption))))
      · have e0 : Bld.fits ⟨sb, sr, [], gone⟩ (.ins l t n) = true := by show decide (sb + 0 ≤ 1099511627776 ∧ sr + n ≤ 1099511627776) = true; first | exact (decide_eq_true (by omega)) | exact (decide_eq_false (by omega))
        rw [e0]
        apply Blk.cast
        · (repeat (with_reducible first | assumption | apply Blk.set | (apply Blk.far (hp := by simp; omega)) | apply Blk.alloc | apply Blk.drewN | apply Blk.drew | (apply Blk.gr (hg := by assumption)) | (apply Blk.kg (k := by assumption) (hne := by decide))))
        · simp [addV, Piece.b, Piece.r]
    · go_enter Tryz.func122, Tryz.ntmps122
      go_wp2_with (go_at_call 227; refine (insLen_any _ _ _ _ ⟨_, _, _, rfl⟩).mono ?_; rintro e w' ⟨rfl, hg⟩; have hBk := Blk.gr (w' := w') hB (by repeat (with_reducible first | assumption | exact Gr.refl _ | apply Gr.alloc | apply Gr.drewN | apply Gr.drew | apply Gr.iter | (refine Gr.setCell ?_ (by simp) _) | (refine Gr.trans ?_ (by assumption)))); have hB' := (Blk.gr (w' := w') hB (by repeat (with_reducible first | assumption | exact Gr.refl _ | apply Gr.alloc | apply Gr.drewN | apply Gr.drew | apply Gr.iter | (refine Gr.setCell ?_ (by simp) _) | (refine Gr.trans ?_ (by assumption))))).cell; have hF' := (Blk.gr (w' := w') hB (by repeat (with_reducible first | assumption | exact Gr.refl _ | apply Gr.alloc | apply Gr.drewN | apply Gr.drew | apply Gr.iter | (refine Gr.setCell ?_ (by simp) _) | (refine Gr.trans ?_ (by assumption))))).frozen; have hz' := (Blk.gr (w' := w') hB (by repeat (with_reducible first | assumption | exact Gr.refl _ | apply Gr.alloc | apply Gr.drewN | apply Gr.drew | apply Gr.iter | (refine Gr.setCell ?_ (by simp) _) | (refine Gr.trans ?_ (by assumption))))).lt)
      have w1 : IntKind.i64.wrap (1099511627776 - sb) = 1099511627776 - sb := IntWalk.i64_in _ (by omega)
      have w2 : IntKind.i64.wrap (1099511627776 - sr) = 1099511627776 - sr := IntWalk.i64_in _ (by omega)
      have d1 : decide (1099511627776 - sb < 0) = false := by simp; omega
      have d2 : decide (1099511627776 - sr < n) = true := by simp; omega
      go_quiet (fail)
      clear w1 w2 d1 d2
      go_wp2
      go_ret
      refine ⟨ret_bool ?_, ?_, ?_⟩
      · show false = decide (sb + 0 ≤ 1099511627776 ∧ sr + n ≤ 1099511627776); first | exact (decide_eq_true (by omega)).symm | exact (decide_eq_false (by omega)).symm
      · (repeat (with_reducible first | exact Kg.refl _ | assumption | refine Kg.alloc ?_ _ | refine Kg.drewN ?_ _ | refine Kg.drew ?_ | (refine Kg.setB (e := 153) ?_ (by (repeat (with_reducible first | assumption | (apply Blk.bt; assumption) | (refine BT.set ?_ _ _) | (refine BT.far ?_ (by simp; omega) _) | refine BT.alloc ?_ _ | refine BT.drewN ?_ _ | refine BT.drew ?_ | (refine BT.gr ?_ (by assumption))))) (by decide) (by assumption) _ _) | (refine Kg.setNew ?_ (by simp; omega) _) | (refine Kg.trans_gr ?_ (by assumption)) | (refine Kg.trans ?_ (by assumption))))
      · have e0 : Bld.fits ⟨sb, sr, [], gone⟩ (.ins l t n) = false := by show decide (sb + 0 ≤ 1099511627776 ∧ sr + n ≤ 1099511627776) = false; first | exact (decide_eq_true (by omega)) | exact (decide_eq_false (by omega))
        rw [e0]
        apply Blk.cast
        · (repeat (with_reducible first | assumption | apply Blk.set | (apply Blk.far (hp := by simp; omega)) | apply Blk.alloc | apply Blk.drewN | apply Blk.drew | (apply Blk.gr (hg := by assumption)) | (apply Blk.kg (k := by assumption) (hne := by decide))))
        · simp [addV, Piece.b, Piece.r]
  | emb l t x =>
    obtain ⟨ps, rfl, ho, -⟩ := hp
    obtain ⟨a, m, c, rfl, -⟩ := ho.1.sl
    obtain ⟨T, y, hv⟩ := valV_form x
    rw [hv]
    have hv := Lib.hid hv
    by_cases hq : 1 ≤ 1099511627776 - sr
    · go_enter Tryz.func122, Tryz.ntmps122
      go_wp2_with (go_at_call 229; refine (embLen_any _ _ _ _ ⟨_, _, _, rfl⟩ ⟨_, _, rfl⟩).mono ?_; rintro e w' ⟨rfl, hg⟩; have hBk := Blk.gr (w' := w') hB (by repeat (with_reducible first | assumption | exact Gr.refl _ | apply Gr.alloc | apply Gr.drewN | apply Gr.drew | apply Gr.iter | (refine Gr.setCell ?_ (by simp) _) | (refine Gr.trans ?_ (by assumption)))); have hB' := (Blk.gr (w' := w') hB (by repeat (with_reducible first | assumption | exact Gr.refl _ | apply Gr.alloc | apply Gr.drewN | apply Gr.drew | apply Gr.iter | (refine Gr.setCell ?_ (by simp) _) | (refine Gr.trans ?_ (by assumption))))).cell; have hF' := (Blk.gr (w' := w') hB (by repeat (with_reducible first | assumption | exact Gr.refl _ | apply Gr.alloc | apply Gr.drewN | apply Gr.drew | apply Gr.iter | (refine Gr.setCell ?_ (by simp) _) | (refine Gr.trans ?_ (by assumption))))).frozen; have hz' := (Blk.gr (w' := w') hB (by repeat (with_reducible first | assumption | exact Gr.refl _ | apply Gr.alloc | apply Gr.drewN | apply Gr.drew | apply Gr.iter | (refine Gr.setCell ?_ (by simp) _) | (refine Gr.trans ?_ (by assumption))))).lt)
      have w1 : IntKind.i64.wrap (1099511627776 - sb) = 1099511627776 - sb := IntWalk.i64_in _ (by omega)
      have w2 : IntKind.i64.wrap (1099511627776 - sr) = 1099511627776 - sr := IntWalk.i64_in _ (by omega)
      have d1 : decide (1099511627776 - sb < 0) = false := by simp; omega
      have d2 : decide (1099511627776 - sr < 1) = false := by simp; omega
      go_quiet (fail)
      clear w1 w2 d1 d2
      go_wp2
      go_region
      go_wp2
      go_region
      go_wp2
      go_ret
      refine ⟨ret_bool ?_, ?_, ?_⟩
      · show true = decide (sb + 0 ≤ 1099511627776 ∧ sr + 1 ≤ 1099511627776); first | exact (decide_eq_true (by omega)).symm | exact (decide_eq_false (by omega)).symm
      · (repeat (with_reducible first | exact Kg.refl _ | assumption | refine Kg.alloc ?_ _ | refine Kg.drewN ?_ _ | refine Kg.drew ?_ | (refine Kg.setB (e := 153) ?_ (by (repeat (with_reducible first | assumption | (apply Blk.bt; assumption) | (refine BT.set ?_ _ _) | (refine BT.far ?_ (by simp; omega) _) | refine BT.alloc ?_ _ | refine BT.drewN ?_ _ | refine BT.drew ?_ | (refine BT.gr ?_ (by assumption))))) (by decide) (by assumption) _ _) | (refine Kg.setNew ?_ (by simp; omega) _) | (refine Kg.trans_gr ?_ (by assumption)) | (refine Kg.trans ?_ (by assumption))))
      · have e0 : Bld.fits ⟨sb, sr, [], gone⟩ (.emb l t x) = true := by show decide (sb + 0 ≤ 1099511627776 ∧ sr + 1 ≤ 1099511627776) = true; first | exact (decide_eq_true (by omega)) | exact (decide_eq_false (by omega))
        rw [e0]
        apply Blk.cast
        · (repeat (with_reducible first | assumption | apply Blk.set | (apply Blk.far (hp := by simp; omega)) | apply Blk.alloc | apply Blk.drewN | apply Blk.drew | (apply Blk.gr (hg := by assumption)) | (apply Blk.kg (k := by assumption) (hne := by decide))))
        · simp [addV, Piece.b, Piece.r]
    · go_enter Tryz.func122, Tryz.ntmps122
      go_wp2_with (go_at_call 229; refine (embLen_any _ _ _ _ ⟨_, _, _, rfl⟩ ⟨_, _, rfl⟩).mono ?_; rintro e w' ⟨rfl, hg⟩; have hBk := Blk.gr (w' := w') hB (by repeat (with_reducible first | assumption | exact Gr.refl _ | apply Gr.alloc | apply Gr.drewN | apply Gr.drew | apply Gr.iter | (refine Gr.setCell ?_ (by simp) _) | (refine Gr.trans ?_ (by assumption)))); have hB' := (Blk.gr (w' := w') hB (by repeat (with_reducible first | assumption | exact Gr.refl _ | apply Gr.alloc | apply Gr.drewN | apply Gr.drew | apply Gr.iter | (refine Gr.setCell ?_ (by simp) _) | (refine Gr.trans ?_ (by assumption))))).cell; have hF' := (Blk.gr (w' := w') hB (by repeat (with_reducible first | assumption | exact Gr.refl _ | apply Gr.alloc | apply Gr.drewN | apply Gr.drew | apply Gr.iter | (refine Gr.setCell ?_ (by simp) _) | (refine Gr.trans ?_ (by assumption))))).frozen; have hz' := (Blk.gr (w' := w') hB (by repeat (with_reducible first | assumption | exact Gr.refl _ | apply Gr.alloc | apply Gr.drewN | apply Gr.drew | apply Gr.iter | (refine Gr.setCell ?_ (by simp) _) | (refine Gr.trans ?_ (by assumption))))).lt)
      have w1 : IntKind.i64.wrap (1099511627776 - sb) = 1099511627776 - sb := IntWalk.i64_in _ (by omega)
      have w2 : IntKind.i64.wrap (1099511627776 - sr) = 1099511627776 - sr := IntWalk.i64_in _ (by omega)
      have d1 : decide (1099511627776 - sb < 0) = false := by simp; omega
      have d2 : decide (1099511627776 - sr < 1) = true := by simp; omega
      go_quiet (fail)
      clear w1 w2 d1 d2
      go_wp2
      go_ret
      refine ⟨ret_bool ?_, ?_, ?_⟩
      · show false = decide (sb + 0 ≤ 1099511627776 ∧ sr + 1 ≤ 1099511627776); first | exact (decide_eq_true (by omega)).symm | exact (decide_eq_false (by omega)).symm
      · (repeat (with_reducible first | exact Kg.refl _ | assumption | refine Kg.alloc ?_ _ | refine Kg.drewN ?_ _ | refine Kg.drew ?_ | (refine Kg.setB (e := 153) ?_ (by (repeat (with_reducible first | assumption | (apply Blk.bt; assumption) | (refine BT.set ?_ _ _) | (refine BT.far ?_ (by simp; omega) _) | refine BT.alloc ?_ _ | refine BT.drewN ?_ _ | refine BT.drew ?_ | (refine BT.gr ?_ (by assumption))))) (by decide) (by assumption) _ _) | (refine Kg.setNew ?_ (by simp; omega) _) | (refine Kg.trans_gr ?_ (by assumption)) | (refine Kg.trans ?_ (by assumption))))
      · have e0 : Bld.fits ⟨sb, sr, [], gone⟩ (.emb l t x) = false := by show decide (sb + 0 ≤ 1099511627776 ∧ sr + 1 ≤ 1099511627776) = false; first | exact (decide_eq_true (by omega)) | exact (decide_eq_false (by omega))
        rw [e0]
        apply Blk.cast
        · (repeat (with_reducible first | assumption | apply Blk.set | (apply Blk.far (hp := by simp; omega)) | apply Blk.alloc | apply Blk.drewN | apply Blk.drew | (apply Blk.gr (hg := by assumption)) | (apply Blk.kg (k := by assumption) (hne := by decide))))
        · simp [addV, Piece.b, Piece.r]
  | ret l n =>
    obtain ⟨ps, rfl, ho⟩ := hp
    obtain ⟨a, m, c, rfl, -⟩ := ho.1.sl
    by_cases hq0 : n ≤ 1099511627776 - sb
    rotate_left 1
    by_cases hq : n ≤ 1099511627776 - sr
    · go_enter Tryz.func122, Tryz.ntmps122
      go_wp2_with (go_at_call 224; refine (retLen_any _ _ _ ⟨_, _, _, rfl⟩).mono ?_; rintro e w' ⟨rfl, hg⟩; have hBk := Blk.gr (w' := w') hB (by repeat (with_reducible first | assumption | exact Gr.refl _ | apply Gr.alloc | apply Gr.drewN | apply Gr.drew | apply Gr.iter | (refine Gr.setCell ?_ (by simp) _) | (refine Gr.trans ?_ (by assumption)))); have hB' := (Blk.gr (w' := w') hB (by repeat (with_reducible first | assumption | exact Gr.refl _ | apply Gr.alloc | apply Gr.drewN | apply Gr.drew | apply Gr.iter | (refine Gr.setCell ?_ (by simp) _) | (refine Gr.trans ?_ (by assumption))))).cell; have hF' := (Blk.gr (w' := w') hB (by repeat (with_reducible first | assumption | exact Gr.refl _ | apply Gr.alloc | apply Gr.drewN | apply Gr.drew | apply Gr.iter | (refine Gr.setCell ?_ (by simp) _) | (refine Gr.trans ?_ (by assumption))))).frozen; have hz' := (Blk.gr (w' := w') hB (by repeat (with_reducible first | assumption | exact Gr.refl _ | apply Gr.alloc | apply Gr.drewN | apply Gr.drew | apply Gr.iter | (refine Gr.setCell ?_ (by simp) _) | (refine Gr.trans ?_ (by assumption))))).lt)
      have w1 : IntKind.i64.wrap (1099511627776 - sb) = 1099511627776 - sb := IntWalk.i64_in _ (by omega)
      have w2 : IntKind.i64.wrap (1099511627776 - sr) = 1099511627776 - sr := IntWalk.i64_in _ (by omega)
      have d1 : decide (1099511627776 - sb < n) = true := by simp; omega
      have d2 : decide (1099511627776 - sr < n) = false := by simp; omega
      go_quiet (fail)
      clear w1 w2 d1 d2
      go_wp2
      go_ret
      refine ⟨ret_bool ?_, ?_, ?_⟩
      · show false = decide (sb + n ≤ 1099511627776 ∧ sr + n ≤ 1099511627776); first | exact (decide_eq_true (by omega)).symm | exact (decide_eq_false (by omega)).symm
      · (repeat (with_reducible first | exact Kg.refl _ | assumption | refine Kg.alloc ?_ _ | refine Kg.drewN ?_ _ | refine Kg.drew ?_ | (refine Kg.setB (e := 153) ?_ (by (repeat (with_reducible first | assumption | (apply Blk.bt; assumption) | (refine BT.set ?_ _ _) | (refine BT.far ?_ (by simp; omega) _) | refine BT.alloc ?_ _ | refine BT.drewN ?_ _ | refine BT.drew ?_ | (refine BT.gr ?_ (by assumption))))) (by decide) (by assumption) _ _) | (refine Kg.setNew ?_ (by simp; omega) _) | (refine Kg.trans_gr ?_ (by assumption)) | (refine Kg.trans ?_ (by assumption))))
      · have e0 : Bld.fits ⟨sb, sr, [], gone⟩ (.ret l n) = false := by show decide (sb + n ≤ 1099511627776 ∧ sr + n ≤ 1099511627776) = false; first | exact (decide_eq_true (by omega)) | exact (decide_eq_false (by omega))
        rw [e0]
        apply Blk.cast
        · (repeat (with_reducible first | assumption | apply Blk.set | (apply Blk.far (hp := by simp; omega)) | apply Blk.alloc | apply Blk.drewN | apply Blk.drew | (apply Blk.gr (hg := by assumption)) | (apply Blk.kg (k := by assumption) (hne := by decide))))
        · simp [addV, Piece.b, Piece.r]
    · go_enter Tryz.func122, Tryz.ntmps122
      go_wp2_with (go_at_call 224; refine (retLen_any _ _ _ ⟨_, _, _, rfl⟩).mono ?_; rintro e w' ⟨rfl, hg⟩; have hBk := Blk.gr (w' := w') hB (by repeat (with_reducible first | assumption | exact Gr.refl _ | apply Gr.alloc | apply Gr.drewN | apply Gr.drew | apply Gr.iter | (refine Gr.setCell ?_ (by simp) _) | (refine Gr.trans ?_ (by assumption)))); have hB' := (Blk.gr (w' := w') hB (by repeat (with_reducible first | assumption | exact Gr.refl _ | apply Gr.alloc | apply Gr.drewN | apply Gr.drew | apply Gr.iter | (refine Gr.setCell ?_ (by simp) _) | (refine Gr.trans ?_ (by assumption))))).cell; have hF' := (Blk.gr (w' := w') hB (by repeat (with_reducible first | assumption | exact Gr.refl _ | apply Gr.alloc | apply Gr.drewN | apply Gr.drew | apply Gr.iter | (refine Gr.setCell ?_ (by simp) _) | (refine Gr.trans ?_ (by assumption))))).frozen; have hz' := (Blk.gr (w' := w') hB (by repeat (with_reducible first | assumption | exact Gr.refl _ | apply Gr.alloc | apply Gr.drewN | apply Gr.drew | apply Gr.iter | (refine Gr.setCell ?_ (by simp) _) | (refine Gr.trans ?_ (by assumption))))).lt)
      have w1 : IntKind.i64.wrap (1099511627776 - sb) = 1099511627776 - sb := IntWalk.i64_in _ (by omega)
      have w2 : IntKind.i64.wrap (1099511627776 - sr) = 1099511627776 - sr := IntWalk.i64_in _ (by omega)
      have d1 : decide (1099511627776 - sb < n) = true := by simp; omega
      have d2 : decide (1099511627776 - sr < n) = true := by simp; omega
      go_quiet (fail)
      clear w1 w2 d1 d2
      go_wp2
      go_ret
      refine ⟨ret_bool ?_, ?_, ?_⟩
      · show false = decide (sb + n ≤ 1099511627776 ∧ sr + n ≤ 1099511627776); first | exact (decide_eq_true (by omega)).symm | exact (decide_eq_false (by omega)).symm
      · (repeat (with_reducible first | exact Kg.refl _ | assumption | refine Kg.alloc ?_ _ | refine Kg.drewN ?_ _ | refine Kg.drew ?_ | (refine Kg.setB (e := 153) ?_ (by (repeat (with_reducible first | assumption | (apply Blk.bt; assumption) | (refine BT.set ?_ _ _) | (refine BT.far ?_ (by simp; omega) _) | refine BT.alloc ?_ _ | refine BT.drewN ?_ _ | refine BT.drew ?_ | (refine BT.gr ?_ (by assumption))))) (by decide) (by assumption) _ _) | (refine Kg.setNew ?_ (by simp; omega) _) | (refine Kg.trans_gr ?_ (by assumption)) | (refine Kg.trans ?_ (by assumption))))
      · have e0 : Bld.fits ⟨sb, sr, [], gone⟩ (.ret l n) = false := by show decide (sb + n ≤ 1099511627776 ∧ sr + n ≤ 1099511627776) = false; first | exact (decide_eq_true (by omega)) | exact (decide_eq_false (by omega))
        rw [e0]
        apply Blk.cast
        · (repeat (with_reducible first | assumption | apply Blk.set | (apply Blk.far (hp := by simp; omega)) | apply Blk.alloc | apply Blk.drewN | apply Blk.drew | (apply Blk.gr (hg := by assumption)) | (apply Blk.kg (k := by assumption) (hne := by decide))))
        · simp [addV, Piece.b, Piece.r]
    by_cases hq : n ≤ 1099511627776 - sr
    · go_enter Tryz.func122, Tryz.ntmps122
      go_wp2_with (go_at_call 224; refine (retLen_any _ _ _ ⟨_, _, _, rfl⟩).mono ?_; rintro e w' ⟨rfl, hg⟩; have hBk := Blk.gr (w' := w') hB (by repeat (with_reducible first | assumption | exact Gr.refl _ | apply Gr.alloc | apply Gr.drewN | apply Gr.drew | apply Gr.iter | (refine Gr.setCell ?_ (by simp) _) | (refine Gr.trans ?_ (by assumption)))); have hB' := (Blk.gr (w' := w') hB (by repeat (with_reducible first | assumption | exact Gr.refl _ | apply Gr.alloc | apply Gr.drewN | apply Gr.drew | apply Gr.iter | (refine Gr.setCell ?_ (by simp) _) | (refine Gr.trans ?_ (by assumption))))).cell; have hF' := (Blk.gr (w' := w') hB (by repeat (with_reducible first | assumption | exact Gr.refl _ | apply Gr.alloc | apply Gr.drewN | apply Gr.drew | apply Gr.iter | (refine Gr.setCell ?_ (by simp) _) | (refine Gr.trans ?_ (by assumption))))).frozen; have hz' := (Blk.gr (w' := w') hB (by repeat (with_reducible first | assumption | exact Gr.refl _ | apply Gr.alloc | apply Gr.drewN | apply Gr.drew | apply Gr.iter | (refine Gr.setCell ?_ (by simp) _) | (refine Gr.trans ?_ (by assumption))))).lt)
      have w1 : IntKind.i64.wrap (1099511627776 - sb) = 1099511627776 - sb := IntWalk.i64_in _ (by omega)
      have w2 : IntKind.i64.wrap (1099511627776 - sr) = 1099511627776 - sr := IntWalk.i64_in _ (by omega)
      have d1 : decide (1099511627776 - sb < n) = false := by simp; omega
      have d2 : decide (1099511627776 - sr < n) = false := by simp; omega
      go_quiet (fail)
      clear w1 w2 d1 d2
      go_wp2
      go_region
      go_wp2
      go_region
      go_wp2
      go_ret
      refine ⟨ret_bool ?_, ?_, ?_⟩
      · show true = decide (sb + n ≤ 1099511627776 ∧ sr + n ≤ 1099511627776); first | exact (decide_eq_true (by omega)).symm | exact (decide_eq_false (by omega)).symm
      · (repeat (with_reducible first | exact Kg.refl _ | assumption | refine Kg.alloc ?_ _ | refine Kg.drewN ?_ _ | refine Kg.drew ?_ | (refine Kg.setB (e := 153) ?_ (by (repeat (with_reducible first | assumption | (apply Blk.bt; assumption) | (refine BT.set ?_ _ _) | (refine BT.far ?_ (by simp; omega) _) | refine BT.alloc ?_ _ | refine BT.drewN ?_ _ | refine BT.drew ?_ | (refine BT.gr ?_ (by assumption))))) (by decide) (by assumption) _ _) | (refine Kg.setNew ?_ (by simp; omega) _) | (refine Kg.trans_gr ?_ (by assumption)) | (refine Kg.trans ?_ (by assumption))))
      · have e0 : Bld.fits ⟨sb, sr, [], gone⟩ (.ret l n) = true := by show decide (sb + n ≤ 1099511627776 ∧ sr + n ≤ 1099511627776) = true; first | exact (decide_eq_true (by omega)) | exact (decide_eq_false (by omega))
        rw [e0]
        apply Blk.cast
        · (repeat (with_reducible first | assumption | apply Blk.set | (apply Blk.far (hp := by simp; omega)) | apply Blk.alloc | apply Blk.drewN | apply Blk.drew | (apply Blk.gr (hg := by assumption)) | (apply Blk.kg (k := by assumption) (hne := by decide))))
        · simp [addV, Piece.b, Piece.r]
    · go_enter Tryz.func122, Tryz.ntmps122
      go_wp2_with (go_at_call 224; refine (retLen_any _ _ _ ⟨_, _, _, rfl⟩).mono ?_; rintro e w' ⟨rfl, hg⟩; have hBk := Blk.gr (w' := w') hB (by repeat (with_reducible first | assumption | exact Gr.refl _ | apply Gr.alloc | apply Gr.drewN | apply Gr.drew | apply Gr.iter | (refine Gr.setCell ?_ (by simp) _) | (refine Gr.trans ?_ (by assumption)))); have hB' := (Blk.gr (w' := w') hB (by repeat (with_reducible first | assumption | exact Gr.refl _ | apply Gr.alloc | apply Gr.drewN | apply Gr.drew | apply Gr.iter | (refine Gr.setCell ?_ (by simp) _) | (refine Gr.trans ?_ (by assumption))))).cell; have hF' := (Blk.gr (w' := w') hB (by repeat (with_reducible first | assumption | exact Gr.refl _ | apply Gr.alloc | apply Gr.drewN | apply Gr.drew | apply Gr.iter | (refine Gr.setCell ?_ (by simp) _) | (refine Gr.trans ?_ (by assumption))))).frozen; have hz' := (Blk.gr (w' := w') hB (by repeat (with_reducible first | assumption | exact Gr.refl _ | apply Gr.alloc | apply Gr.drewN | apply Gr.drew | apply Gr.iter | (refine Gr.setCell ?_ (by simp) _) | (refine Gr.trans ?_ (by assumption))))).lt)
      have w1 : IntKind.i64.wrap (1099511627776 - sb) = 1099511627776 - sb := IntWalk.i64_in _ (by omega)
      have w2 : IntKind.i64.wrap (1099511627776 - sr) = 1099511627776 - sr := IntWalk.i64_in _ (by omega)
      have d1 : decide (1099511627776 - sb < n) = false := by simp; omega
      have d2 : decide (1099511627776 - sr < n) = true := by simp; omega
      go_quiet (fail)
      clear w1 w2 d1 d2
      go_wp2
      go_ret
      refine ⟨ret_bool ?_, ?_, ?_⟩
      · show false = decide (sb + n ≤ 1099511627776 ∧ sr + n ≤ 1099511627776); first | exact (decide_eq_true (by omega)).symm | exact (decide_eq_false (by omega)).symm
      · (repeat (with_reducible first | exact Kg.refl _ | assumption | refine Kg.alloc ?_ _ | refine Kg.drewN ?_ _ | refine Kg.drew ?_ | (refine Kg.setB (e := 153) ?_ (by (repeat (with_reducible first | assumption | (apply Blk.bt; assumption) | (refine BT.set ?_ _ _) | (refine BT.far ?_ (by simp; omega) _) | refine BT.alloc ?_ _ | refine BT.drewN ?_ _ | refine BT.drew ?_ | (refine BT.gr ?_ (by assumption))))) (by decide) (by assumption) _ _) | (refine Kg.setNew ?_ (by simp; omega) _) | (refine Kg.trans_gr ?_ (by assumption)) | (refine Kg.trans ?_ (by assumption))))
      · have e0 : Bld.fits ⟨sb, sr, [], gone⟩ (.ret l n) = false := by show decide (sb + n ≤ 1099511627776 ∧ sr + n ≤ 1099511627776) = false; first | exact (decide_eq_true (by omega)) | exact (decide_eq_false (by omega))
        rw [e0]
        apply Blk.cast
        · (repeat (with_reducible first | assumption | apply Blk.set | (apply Blk.far (hp := by simp; omega)) | apply Blk.alloc | apply Blk.drewN | apply Blk.drew | (apply Blk.gr (hg := by assumption)) | (apply Blk.kg (k := by assumption) (hne := by decide))))
        · simp [addV, Piece.b, Piece.r]
  | del n =>
    obtain rfl := hp
    by_cases hq : n ≤ 1099511627776 - sb
    · go_enter Tryz.func122, Tryz.ntmps122
      go_wp2_with (go_at_call 226; refine (delLen_any _ _).mono ?_; rintro e w' ⟨rfl, hg⟩; have hBk := Blk.gr (w' := w') hB (by repeat (with_reducible first | assumption | exact Gr.refl _ | apply Gr.alloc | apply Gr.drewN | apply Gr.drew | apply Gr.iter | (refine Gr.setCell ?_ (by simp) _) | (refine Gr.trans ?_ (by assumption)))); have hB' := (Blk.gr (w' := w') hB (by repeat (with_reducible first | assumption | exact Gr.refl _ | apply Gr.alloc | apply Gr.drewN | apply Gr.drew | apply Gr.iter | (refine Gr.setCell ?_ (by simp) _) | (refine Gr.trans ?_ (by assumption))))).cell; have hF' := (Blk.gr (w' := w') hB (by repeat (with_reducible first | assumption | exact Gr.refl _ | apply Gr.alloc | apply Gr.drewN | apply Gr.drew | apply Gr.iter | (refine Gr.setCell ?_ (by simp) _) | (refine Gr.trans ?_ (by assumption))))).frozen; have hz' := (Blk.gr (w' := w') hB (by repeat (with_reducible first | assumption | exact Gr.refl _ | apply Gr.alloc | apply Gr.drewN | apply Gr.drew | apply Gr.iter | (refine Gr.setCell ?_ (by simp) _) | (refine Gr.trans ?_ (by assumption))))).lt)
      have w1 : IntKind.i64.wrap (1099511627776 - sb) = 1099511627776 - sb := IntWalk.i64_in _ (by omega)
      have w2 : IntKind.i64.wrap (1099511627776 - sr) = 1099511627776 - sr := IntWalk.i64_in _ (by omega)
      have d1 : decide (1099511627776 - sb < n) = false := by simp; omega
      have d2 : decide (1099511627776 - sr < 0) = false := by simp; omega
      go_quiet (fail)
      clear w1 w2 d1 d2
      go_wp2
      go_region
      go_wp2
      go_region
      go_wp2
      go_ret
      refine ⟨ret_bool ?_, ?_, ?_⟩
      · show true = decide (sb + n ≤ 1099511627776 ∧ sr + 0 ≤ 1099511627776); first | exact (decide_eq_true (by omega)).symm | exact (decide_eq_false (by omega)).symm
      · (repeat (with_reducible first | exact Kg.refl _ | assumption | refine Kg.alloc ?_ _ | refine Kg.drewN ?_ _ | refine Kg.drew ?_ | (refine Kg.setB (e := 153) ?_ (by (repeat (with_reducible first | assumption | (apply Blk.bt; assumption) | (refine BT.set ?_ _ _) | (refine BT.far ?_ (by simp; omega) _) | refine BT.alloc ?_ _ | refine BT.drewN ?_ _ | refine BT.drew ?_ | (refine BT.gr ?_ (by assumption))))) (by decide) (by assumption) _ _) | (refine Kg.setNew ?_ (by simp; omega) _) | (refine Kg.trans_gr ?_ (by assumption)) | (refine Kg.trans ?_ (by assumption))))
      · have e0 : Bld.fits ⟨sb, sr, [], gone⟩ (.del n) = true := by show decide (sb + n ≤ 1099511627776 ∧ sr + 0 ≤ 1099511627776) = true; first | exact (decide_eq_true (by omega)) | exact (decide_eq_false (by omega))
        rw [e0]
        apply Blk.cast
        · (repeat (with_reducible first | assumption | apply Blk.set | (apply Blk.far (hp := by simp; omega)) | apply Blk.alloc | apply Blk.drewN | apply Blk.drew | (apply Blk.gr (hg := by assumption)) | (apply Blk.kg (k := by assumption) (hne := by decide))))
        · simp [addV, Piece.b, Piece.r]
    · go_enter Tryz.func122, Tryz.ntmps122
      go_wp2_with (go_at_call 226; refine (delLen_any _ _).mono ?_; rintro e w' ⟨rfl, hg⟩; have hBk := Blk.gr (w' := w') hB (by repeat (with_reducible first | assumption | exact Gr.refl _ | apply Gr.alloc | apply Gr.drewN | apply Gr.drew | apply Gr.iter | (refine Gr.setCell ?_ (by simp) _) | (refine Gr.trans ?_ (by assumption)))); have hB' := (Blk.gr (w' := w') hB (by repeat (with_reducible first | assumption | exact Gr.refl _ | apply Gr.alloc | apply Gr.drewN | apply Gr.drew | apply Gr.iter | (refine Gr.setCell ?_ (by simp) _) | (refine Gr.trans ?_ (by assumption))))).cell; have hF' := (Blk.gr (w' := w') hB (by repeat (with_reducible first | assumption | exact Gr.refl _ | apply Gr.alloc | apply Gr.drewN | apply Gr.drew | apply Gr.iter | (refine Gr.setCell ?_ (by simp) _) | (refine Gr.trans ?_ (by assumption))))).frozen; have hz' := (Blk.gr (w' := w') hB (by repeat (with_reducible first | assumption | exact Gr.refl _ | apply Gr.alloc | apply Gr.drewN | apply Gr.drew | apply Gr.iter | (refine Gr.setCell ?_ (by simp) _) | (refine Gr.trans ?_ (by assumption))))).lt)
      have w1 : IntKind.i64.wrap (1099511627776 - sb) = 1099511627776 - sb := IntWalk.i64_in _ (by omega)
      have w2 : IntKind.i64.wrap (1099511627776 - sr) = 1099511627776 - sr := IntWalk.i64_in _ (by omega)
      have d1 : decide (1099511627776 - sb < n) = true := by simp; omega
      have d2 : decide (1099511627776 - sr < 0) = false := by simp; omega
      go_quiet (fail)
      clear w1 w2 d1 d2
      go_wp2
      go_ret
      refine ⟨ret_bool ?_, ?_, ?_⟩
      · show false = decide (sb + n ≤ 1099511627776 ∧ sr + 0 ≤ 1099511627776); first | exact (decide_eq_true (by omega)).symm | exact (decide_eq_false (by omega)).symm
      · (repeat (with_reducible first | exact Kg.refl _ | assumption | refine Kg.alloc ?_ _ | refine Kg.drewN ?_ _ | refine Kg.drew ?_ | (refine Kg.setB (e := 153) ?_ (by (repeat (with_reducible first | assumption | (apply Blk.bt; assumption) | (refine BT.set ?_ _ _) | (refine BT.far ?_ (by simp; omega) _) | refine BT.alloc ?_ _ | refine BT.drewN ?_ _ | refine BT.drew ?_ | (refine BT.gr ?_ (by assumption))))) (by decide) (by assumption) _ _) | (refine Kg.setNew ?_ (by simp; omega) _) | (refine Kg.trans_gr ?_ (by assumption)) | (refine Kg.trans ?_ (by assumption))))
      · have e0 : Bld.fits ⟨sb, sr, [], gone⟩ (.del n) = false := by show decide (sb + n ≤ 1099511627776 ∧ sr + 0 ≤ 1099511627776) = false; first | exact (decide_eq_true (by omega)) | exact (decide_eq_false (by omega))
        rw [e0]
        apply Blk.cast
        · (repeat (with_reducible first | assumption | apply Blk.set | (apply Blk.far (hp := by simp; omega)) | apply Blk.alloc | apply Blk.drewN | apply Blk.drew | (apply Blk.gr (hg := by assumption)) | (apply Blk.kg (k := by assumption) (hne := by decide))))
        · simp [addV, Piece.b, Piece.r]
end Ve
