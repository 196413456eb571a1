/- Walks of vellumnum: list, Num. -/
import Derived.Test.YtnlpmajiccliiaaGreatDoorK1
import Derived.LaidEql
import Derived.Deep.Cut
import Derived.Great.Walk
import Derived.Laws.Rows
set_option linter.all false
namespace Ve
open Go Go.RowKit Go.Proofs

theorem load_err {o : Oper} {w : World} {g : Nat} {v : Value} (hc : w.cell? ⟨g, 0, none⟩ = some v) : ∀ ρ : Operand → Value, ρ (.global g) = .pointer (some ⟨g, 0, none⟩) →
    (execOp ρ { o with op := .load 28 (.global g) }).run Tryz.prog w = .ok (.value v) w := by
  intro ρ h
  unfold execOp
  simp only [h]
  go_simp
/-- The error number i. -/
def errV (ea : Nat → Addr) (i : Nat) : Value := .iface 245 (.pointer (some (ea i)))
theorem errOf_V (ea : Nat → Addr) (i : Nat) (h : 1 ≤ i) : errOf ea (i : Int) = errV ea i := by
  rw [errOf_pos ea (by omega)]; rfl
def arrV (ea : Nat → Addr) : Array Value := #[errV ea 1, errV ea 2, errV ea 3, errV ea 4, errV ea 5, errV ea 6, errV ea 7, errV ea 8, errV ea 9, errV ea 10, errV ea 11, errV ea 12, errV ea 13, errV ea 14, errV ea 15, errV ea 16, errV ea 17, errV ea 18, errV ea 19]
theorem gr_setRow (w : World) (cs cs' : Array Value) (e : TypeId) : Gr w ((w.alloc (.cells cs e)).setRow w.heap.size cs') :=
  Below.mk rfl rfl rfl (by simp [World.setRow]) (fun i hi => by rw [setRow_other _ _ _ _ (by omega)]; exact Below.heap_alloc w _ i hi)

theorem arr_at (ea : Nat → Addr) (k : Nat) (h : k < 19) : (arrV ea)[k]? = some (errV ea (k + 1)) := by
  have hk : k = 0 ∨ k = 1 ∨ k = 2 ∨ k = 3 ∨ k = 4 ∨ k = 5 ∨ k = 6 ∨ k = 7 ∨ k = 8 ∨ k = 9 ∨ k = 10 ∨ k = 11 ∨ k = 12 ∨ k = 13 ∨ k = 14 ∨ k = 15 ∨ k = 16 ∨ k = 17 ∨ k = 18 := by omega
  rcases hk with rfl | rfl | rfl | rfl | rfl | rfl | rfl | rfl | rfl | rfl | rfl | rfl | rfl | rfl | rfl | rfl | rfl | rfl | rfl <;> rfl
theorem index_arr (ea : Nat → Addr) (k : Nat) (h : k < 19) (w : World) : (Instr.index 123 (.agg (arrV ea)) (.int .i64 (k : Int))).run Tryz.prog w = .ok (errV ea (k + 1)) w := by
  have hu : Tryz.prog.underlying 123 = some (.array 19 28) := by kernel_rfl
  have hn : 0 ≤ (k : Int) ∧ (k : Int) < ((19 : Nat) : Int) := by omega
  simp [Instr.index, run_underlying hu, asIntOf, hn, h, arr_at ea k h, go_sem]
theorem under_error : ∃ ms, Tryz.prog.underlying 28 = some (.interface ms) := ⟨_, methods_error⟩
theorem under_errp : Tryz.prog.underlying 245 = some (.pointer 263) := by kernel_rfl
theorem comp_errp : (Tryz.prog.info? 245).map (·.comparable) = some true := by kernel_rfl
theorem size_errs : (Tryz.prog.info? 263).map (·.size) = some 1 := by kernel_rfl
theorem eql_errV {ea : Nat → Addr} {w : World} (h : Env19 ea w) (i j : Nat) (i1 : 1 ≤ i) (i2 : i ≤ 19) (j1 : 1 ≤ j) (j2 : j ≤ 19) :
    (binOp .eql 28 (errV ea i) (errV ea j)).run Tryz.prog w = .ok (.bool (decide (i = j))) w := by
  obtain ⟨ms, hi⟩ := under_error
  obtain ⟨x, hx, hc⟩ := Option.map_eq_some_iff.1 comp_errp
  obtain ⟨y, hy, hs⟩ := Option.map_eq_some_iff.1 size_errs
  by_cases e : i = j
  · subst e
    rw [decide_eq_true rfl]
    exact run_eql_iface_ptr_same w (ea i) hi under_errp hx hc hy
  · rw [decide_eq_false e]
    obtain ⟨c1, t1, b1⟩ := h.block i i1 i2
    obtain ⟨c2, t2, b2⟩ := h.block j j1 j2
    exact run_eql_iface_ptr_other w hi under_errp hx hc hy (by omega) (fun e' => e (h.apart i j i1 i2 j1 j2 e')) b1 b2
theorem underArr : Tryz.prog.underlying 123 = some (.array 19 28) := by kernel_rfl
theorem sizeArr : (Tryz.prog.info? 123).map (·.size) = some 19 := by kernel_rfl
set_option maxRecDepth 100000 in
set_option maxHeartbeats 4000000 in
theorem numlist_any {ea : Nat → Addr} (w : World) (hE : Env19 ea w) : Calls Tryz.prog 91 #[] w fun e w' => e = .returned (.agg (arrV ea)) ∧ Gr w w' := by
  have g1 := hE.env.e1
  have g2 := hE.e2
  have g3 := hE.e3
  have g4 := hE.e4
  have g5 := hE.env.e5
  have g6 := hE.env.e6
  have g7 := hE.env.e7
  have g8 := hE.env.e8
  have g9 := hE.env.e9
  have g10 := hE.env.e10
  have g11 := hE.env.e11
  have g12 := hE.env.e12
  have g13 := hE.e13
  have g14 := hE.e14
  have g15 := hE.e15
  have g16 := hE.e16
  have g17 := hE.e17
  have g18 := hE.e18
  have g19 := hE.e19
  rw [show (1 : Int) = ((1 : Nat) : Int) from rfl, errOf_V ea 1 (by omega)] at g1
  rw [show (2 : Int) = ((2 : Nat) : Int) from rfl, errOf_V ea 2 (by omega)] at g2
  rw [show (3 : Int) = ((3 : Nat) : Int) from rfl, errOf_V ea 3 (by omega)] at g3
  rw [show (4 : Int) = ((4 : Nat) : Int) from rfl, errOf_V ea 4 (by omega)] at g4
  rw [show (5 : Int) = ((5 : Nat) : Int) from rfl, errOf_V ea 5 (by omega)] at g5
  rw [show (6 : Int) = ((6 : Nat) : Int) from rfl, errOf_V ea 6 (by omega)] at g6
  rw [show (7 : Int) = ((7 : Nat) : Int) from rfl, errOf_V ea 7 (by omega)] at g7
  rw [show (8 : Int) = ((8 : Nat) : Int) from rfl, errOf_V ea 8 (by omega)] at g8
  rw [show (9 : Int) = ((9 : Nat) : Int) from rfl, errOf_V ea 9 (by omega)] at g9
  rw [show (10 : Int) = ((10 : Nat) : Int) from rfl, errOf_V ea 10 (by omega)] at g10
  rw [show (11 : Int) = ((11 : Nat) : Int) from rfl, errOf_V ea 11 (by omega)] at g11
  rw [show (12 : Int) = ((12 : Nat) : Int) from rfl, errOf_V ea 12 (by omega)] at g12
  rw [show (13 : Int) = ((13 : Nat) : Int) from rfl, errOf_V ea 13 (by omega)] at g13
  rw [show (14 : Int) = ((14 : Nat) : Int) from rfl, errOf_V ea 14 (by omega)] at g14
  rw [show (15 : Int) = ((15 : Nat) : Int) from rfl, errOf_V ea 15 (by omega)] at g15
  rw [show (16 : Int) = ((16 : Nat) : Int) from rfl, errOf_V ea 16 (by omega)] at g16
  rw [show (17 : Int) = ((17 : Nat) : Int) from rfl, errOf_V ea 17 (by omega)] at g17
  rw [show (18 : Int) = ((18 : Nat) : Int) from rfl, errOf_V ea 18 (by omega)] at g18
  rw [show (19 : Int) = ((19 : Nat) : Int) from rfl, errOf_V ea 19 (by omega)] at g19
  have G1 := Lib.hid g1; clear g1
  have G2 := Lib.hid g2; clear g2
  have G3 := Lib.hid g3; clear g3
  have G4 := Lib.hid g4; clear g4
  have G5 := Lib.hid g5; clear g5
  have G6 := Lib.hid g6; clear g6
  have G7 := Lib.hid g7; clear g7
  have G8 := Lib.hid g8; clear g8
  have G9 := Lib.hid g9; clear g9
  have G10 := Lib.hid g10; clear g10
  have G11 := Lib.hid g11; clear g11
  have G12 := Lib.hid g12; clear g12
  have G13 := Lib.hid g13; clear g13
  have G14 := Lib.hid g14; clear g14
  have G15 := Lib.hid g15; clear g15
  have G16 := Lib.hid g16; clear g16
  have G17 := Lib.hid g17; clear g17
  have G18 := Lib.hid g18; clear g18
  have G19 := Lib.hid g19; clear g19
  go_enter Tryz.func91, Tryz.ntmps91
  go_upto_region 1 with (fail)
  refine wp_region_lit ?_
  refine Go.Great.wpList_loadVarTo rfl (some 1) rfl 28 3 rfl (errV ea 1) (load_err (Gr.cell (w := w) (by repeat (with_reducible first | assumption | exact Gr.refl _ | apply Gr.alloc | apply Gr.drewN | apply Gr.drew | apply Gr.iter | (refine Gr.setCell ?_ (by simp) _) | (refine Gr.trans ?_ (by assumption)))) G1.out)) ?_
  refine wpList_frame (a' := { tmps := #[.pointer (some ⟨w.heap.size, 0, none⟩), errV ea 1, undef, undef, undef, undef, undef, undef, undef, undef, undef, undef, undef, undef, undef, undef, undef, undef, undef, undef, undef], defers := [] }) rfl ?_
  refine Go.Great.wpList_loadVarTo rfl (some 2) rfl 28 4 rfl (errV ea 2) (load_err (Gr.cell (w := w) (by repeat (with_reducible first | assumption | exact Gr.refl _ | apply Gr.alloc | apply Gr.drewN | apply Gr.drew | apply Gr.iter | (refine Gr.setCell ?_ (by simp) _) | (refine Gr.trans ?_ (by assumption)))) G2.out)) ?_
  refine wpList_frame (a' := { tmps := #[.pointer (some ⟨w.heap.size, 0, none⟩), errV ea 1, errV ea 2, undef, undef, undef, undef, undef, undef, undef, undef, undef, undef, undef, undef, undef, undef, undef, undef, undef, undef], defers := [] }) rfl ?_
  refine Go.Great.wpList_loadVarTo rfl (some 3) rfl 28 5 rfl (errV ea 3) (load_err (Gr.cell (w := w) (by repeat (with_reducible first | assumption | exact Gr.refl _ | apply Gr.alloc | apply Gr.drewN | apply Gr.drew | apply Gr.iter | (refine Gr.setCell ?_ (by simp) _) | (refine Gr.trans ?_ (by assumption)))) G3.out)) ?_
  refine wpList_frame (a' := { tmps := #[.pointer (some ⟨w.heap.size, 0, none⟩), errV ea 1, errV ea 2, errV ea 3, undef, undef, undef, undef, undef, undef, undef, undef, undef, undef, undef, undef, undef, undef, undef, undef, undef], defers := [] }) rfl ?_
  refine Go.Great.wpList_loadVarTo rfl (some 4) rfl 28 6 rfl (errV ea 4) (load_err (Gr.cell (w := w) (by repeat (with_reducible first | assumption | exact Gr.refl _ | apply Gr.alloc | apply Gr.drewN | apply Gr.drew | apply Gr.iter | (refine Gr.setCell ?_ (by simp) _) | (refine Gr.trans ?_ (by assumption)))) G4.out)) ?_
  refine wpList_frame (a' := { tmps := #[.pointer (some ⟨w.heap.size, 0, none⟩), errV ea 1, errV ea 2, errV ea 3, errV ea 4, undef, undef, undef, undef, undef, undef, undef, undef, undef, undef, undef, undef, undef, undef, undef, undef], defers := [] }) rfl ?_
  refine Go.Great.wpList_loadVarTo rfl (some 5) rfl 28 7 rfl (errV ea 5) (load_err (Gr.cell (w := w) (by repeat (with_reducible first | assumption | exact Gr.refl _ | apply Gr.alloc | apply Gr.drewN | apply Gr.drew | apply Gr.iter | (refine Gr.setCell ?_ (by simp) _) | (refine Gr.trans ?_ (by assumption)))) G5.out)) ?_
  refine wpList_frame (a' := { tmps := #[.pointer (some ⟨w.heap.size, 0, none⟩), errV ea 1, errV ea 2, errV ea 3, errV ea 4, errV ea 5, undef, undef, undef, undef, undef, undef, undef, undef, undef, undef, undef, undef, undef, undef, undef], defers := [] }) rfl ?_
  refine Go.Great.wpList_loadVarTo rfl (some 6) rfl 28 8 rfl (errV ea 6) (load_err (Gr.cell (w := w) (by repeat (with_reducible first | assumption | exact Gr.refl _ | apply Gr.alloc | apply Gr.drewN | apply Gr.drew | apply Gr.iter | (refine Gr.setCell ?_ (by simp) _) | (refine Gr.trans ?_ (by assumption)))) G6.out)) ?_
  refine wpList_frame (a' := { tmps := #[.pointer (some ⟨w.heap.size, 0, none⟩), errV ea 1, errV ea 2, errV ea 3, errV ea 4, errV ea 5, errV ea 6, undef, undef, undef, undef, undef, undef, undef, undef, undef, undef, undef, undef, undef, undef], defers := [] }) rfl ?_
  refine Go.Great.wpList_loadVarTo rfl (some 7) rfl 28 9 rfl (errV ea 7) (load_err (Gr.cell (w := w) (by repeat (with_reducible first | assumption | exact Gr.refl _ | apply Gr.alloc | apply Gr.drewN | apply Gr.drew | apply Gr.iter | (refine Gr.setCell ?_ (by simp) _) | (refine Gr.trans ?_ (by assumption)))) G7.out)) ?_
  refine wpList_frame (a' := { tmps := #[.pointer (some ⟨w.heap.size, 0, none⟩), errV ea 1, errV ea 2, errV ea 3, errV ea 4, errV ea 5, errV ea 6, errV ea 7, undef, undef, undef, undef, undef, undef, undef, undef, undef, undef, undef, undef, undef], defers := [] }) rfl ?_
  refine Go.Great.wpList_loadVarTo rfl (some 8) rfl 28 10 rfl (errV ea 8) (load_err (Gr.cell (w := w) (by repeat (with_reducible first | assumption | exact Gr.refl _ | apply Gr.alloc | apply Gr.drewN | apply Gr.drew | apply Gr.iter | (refine Gr.setCell ?_ (by simp) _) | (refine Gr.trans ?_ (by assumption)))) G8.out)) ?_
  refine wpList_frame (a' := { tmps := #[.pointer (some ⟨w.heap.size, 0, none⟩), errV ea 1, errV ea 2, errV ea 3, errV ea 4, errV ea 5, errV ea 6, errV ea 7, errV ea 8, undef, undef, undef, undef, undef, undef, undef, undef, undef, undef, undef, undef], defers := [] }) rfl ?_
  refine Go.Great.wpList_loadVarTo rfl (some 9) rfl 28 1 rfl (errV ea 9) (load_err (Gr.cell (w := w) (by repeat (with_reducible first | assumption | exact Gr.refl _ | apply Gr.alloc | apply Gr.drewN | apply Gr.drew | apply Gr.iter | (refine Gr.setCell ?_ (by simp) _) | (refine Gr.trans ?_ (by assumption)))) G9.out)) ?_
  refine wpList_frame (a' := { tmps := #[.pointer (some ⟨w.heap.size, 0, none⟩), errV ea 1, errV ea 2, errV ea 3, errV ea 4, errV ea 5, errV ea 6, errV ea 7, errV ea 8, errV ea 9, undef, undef, undef, undef, undef, undef, undef, undef, undef, undef, undef], defers := [] }) rfl ?_
  refine Go.Great.wpList_loadVarTo rfl (some 10) rfl 28 11 rfl (errV ea 10) (load_err (Gr.cell (w := w) (by repeat (with_reducible first | assumption | exact Gr.refl _ | apply Gr.alloc | apply Gr.drewN | apply Gr.drew | apply Gr.iter | (refine Gr.setCell ?_ (by simp) _) | (refine Gr.trans ?_ (by assumption)))) G10.out)) ?_
  refine wpList_frame (a' := { tmps := #[.pointer (some ⟨w.heap.size, 0, none⟩), errV ea 1, errV ea 2, errV ea 3, errV ea 4, errV ea 5, errV ea 6, errV ea 7, errV ea 8, errV ea 9, errV ea 10, undef, undef, undef, undef, undef, undef, undef, undef, undef, undef], defers := [] }) rfl ?_
  refine Go.Great.wpList_loadVarTo rfl (some 11) rfl 28 0 rfl (errV ea 11) (load_err (Gr.cell (w := w) (by repeat (with_reducible first | assumption | exact Gr.refl _ | apply Gr.alloc | apply Gr.drewN | apply Gr.drew | apply Gr.iter | (refine Gr.setCell ?_ (by simp) _) | (refine Gr.trans ?_ (by assumption)))) G11.out)) ?_
  refine wpList_frame (a' := { tmps := #[.pointer (some ⟨w.heap.size, 0, none⟩), errV ea 1, errV ea 2, errV ea 3, errV ea 4, errV ea 5, errV ea 6, errV ea 7, errV ea 8, errV ea 9, errV ea 10, errV ea 11, undef, undef, undef, undef, undef, undef, undef, undef, undef], defers := [] }) rfl ?_
  refine Go.Great.wpList_loadVarTo rfl (some 12) rfl 28 2 rfl (errV ea 12) (load_err (Gr.cell (w := w) (by repeat (with_reducible first | assumption | exact Gr.refl _ | apply Gr.alloc | apply Gr.drewN | apply Gr.drew | apply Gr.iter | (refine Gr.setCell ?_ (by simp) _) | (refine Gr.trans ?_ (by assumption)))) G12.out)) ?_
  refine wpList_frame (a' := { tmps := #[.pointer (some ⟨w.heap.size, 0, none⟩), errV ea 1, errV ea 2, errV ea 3, errV ea 4, errV ea 5, errV ea 6, errV ea 7, errV ea 8, errV ea 9, errV ea 10, errV ea 11, errV ea 12, undef, undef, undef, undef, undef, undef, undef, undef], defers := [] }) rfl ?_
  refine Go.Great.wpList_loadVarTo rfl (some 13) rfl 28 12 rfl (errV ea 13) (load_err (Gr.cell (w := w) (by repeat (with_reducible first | assumption | exact Gr.refl _ | apply Gr.alloc | apply Gr.drewN | apply Gr.drew | apply Gr.iter | (refine Gr.setCell ?_ (by simp) _) | (refine Gr.trans ?_ (by assumption)))) G13.out)) ?_
  refine wpList_frame (a' := { tmps := #[.pointer (some ⟨w.heap.size, 0, none⟩), errV ea 1, errV ea 2, errV ea 3, errV ea 4, errV ea 5, errV ea 6, errV ea 7, errV ea 8, errV ea 9, errV ea 10, errV ea 11, errV ea 12, errV ea 13, undef, undef, undef, undef, undef, undef, undef], defers := [] }) rfl ?_
  refine Go.Great.wpList_loadVarTo rfl (some 14) rfl 28 13 rfl (errV ea 14) (load_err (Gr.cell (w := w) (by repeat (with_reducible first | assumption | exact Gr.refl _ | apply Gr.alloc | apply Gr.drewN | apply Gr.drew | apply Gr.iter | (refine Gr.setCell ?_ (by simp) _) | (refine Gr.trans ?_ (by assumption)))) G14.out)) ?_
  refine wpList_frame (a' := { tmps := #[.pointer (some ⟨w.heap.size, 0, none⟩), errV ea 1, errV ea 2, errV ea 3, errV ea 4, errV ea 5, errV ea 6, errV ea 7, errV ea 8, errV ea 9, errV ea 10, errV ea 11, errV ea 12, errV ea 13, errV ea 14, undef, undef, undef, undef, undef, undef], defers := [] }) rfl ?_
  refine Go.Great.wpList_loadVarTo rfl (some 15) rfl 28 14 rfl (errV ea 15) (load_err (Gr.cell (w := w) (by repeat (with_reducible first | assumption | exact Gr.refl _ | apply Gr.alloc | apply Gr.drewN | apply Gr.drew | apply Gr.iter | (refine Gr.setCell ?_ (by simp) _) | (refine Gr.trans ?_ (by assumption)))) G15.out)) ?_
  refine wpList_frame (a' := { tmps := #[.pointer (some ⟨w.heap.size, 0, none⟩), errV ea 1, errV ea 2, errV ea 3, errV ea 4, errV ea 5, errV ea 6, errV ea 7, errV ea 8, errV ea 9, errV ea 10, errV ea 11, errV ea 12, errV ea 13, errV ea 14, errV ea 15, undef, undef, undef, undef, undef], defers := [] }) rfl ?_
  refine Go.Great.wpList_loadVarTo rfl (some 16) rfl 28 15 rfl (errV ea 16) (load_err (Gr.cell (w := w) (by repeat (with_reducible first | assumption | exact Gr.refl _ | apply Gr.alloc | apply Gr.drewN | apply Gr.drew | apply Gr.iter | (refine Gr.setCell ?_ (by simp) _) | (refine Gr.trans ?_ (by assumption)))) G16.out)) ?_
  refine wpList_frame (a' := { tmps := #[.pointer (some ⟨w.heap.size, 0, none⟩), errV ea 1, errV ea 2, errV ea 3, errV ea 4, errV ea 5, errV ea 6, errV ea 7, errV ea 8, errV ea 9, errV ea 10, errV ea 11, errV ea 12, errV ea 13, errV ea 14, errV ea 15, errV ea 16, undef, undef, undef, undef], defers := [] }) rfl ?_
  refine Go.Great.wpList_loadVarTo rfl (some 17) rfl 28 16 rfl (errV ea 17) (load_err (Gr.cell (w := w) (by repeat (with_reducible first | assumption | exact Gr.refl _ | apply Gr.alloc | apply Gr.drewN | apply Gr.drew | apply Gr.iter | (refine Gr.setCell ?_ (by simp) _) | (refine Gr.trans ?_ (by assumption)))) G17.out)) ?_
  refine wpList_frame (a' := { tmps := #[.pointer (some ⟨w.heap.size, 0, none⟩), errV ea 1, errV ea 2, errV ea 3, errV ea 4, errV ea 5, errV ea 6, errV ea 7, errV ea 8, errV ea 9, errV ea 10, errV ea 11, errV ea 12, errV ea 13, errV ea 14, errV ea 15, errV ea 16, errV ea 17, undef, undef, undef], defers := [] }) rfl ?_
  refine Go.Great.wpList_loadVarTo rfl (some 18) rfl 28 17 rfl (errV ea 18) (load_err (Gr.cell (w := w) (by repeat (with_reducible first | assumption | exact Gr.refl _ | apply Gr.alloc | apply Gr.drewN | apply Gr.drew | apply Gr.iter | (refine Gr.setCell ?_ (by simp) _) | (refine Gr.trans ?_ (by assumption)))) G18.out)) ?_
  refine wpList_frame (a' := { tmps := #[.pointer (some ⟨w.heap.size, 0, none⟩), errV ea 1, errV ea 2, errV ea 3, errV ea 4, errV ea 5, errV ea 6, errV ea 7, errV ea 8, errV ea 9, errV ea 10, errV ea 11, errV ea 12, errV ea 13, errV ea 14, errV ea 15, errV ea 16, errV ea 17, errV ea 18, undef, undef], defers := [] }) rfl ?_
  refine Go.Great.wpList_loadVarTo rfl (some 19) rfl 28 18 rfl (errV ea 19) (load_err (Gr.cell (w := w) (by repeat (with_reducible first | assumption | exact Gr.refl _ | apply Gr.alloc | apply Gr.drewN | apply Gr.drew | apply Gr.iter | (refine Gr.setCell ?_ (by simp) _) | (refine Gr.trans ?_ (by assumption)))) G19.out)) ?_
  refine wpList_frame (a' := { tmps := #[.pointer (some ⟨w.heap.size, 0, none⟩), errV ea 1, errV ea 2, errV ea 3, errV ea 4, errV ea 5, errV ea 6, errV ea 7, errV ea 8, errV ea 9, errV ea 10, errV ea 11, errV ea 12, errV ea 13, errV ea 14, errV ea 15, errV ea 16, errV ea 17, errV ea 18, errV ea 19, undef], defers := [] }) rfl ?_
  refine wpList_buildTo rfl 123 _ rfl (some 20) rfl (arrV ea) (by kernel_rfl) ?_
  refine wpList_store_rowTo rfl 123 (.tmp 0) (.tmp 20) rfl rfl w.heap.size (arrV ea) rfl rfl 123 _ (heap_alloc_new w _) sizeArr rfl (by kernel_rfl) ?_
  refine wpList_frame (a' := { tmps := #[.pointer (some ⟨w.heap.size, 0, none⟩), errV ea 1, errV ea 2, errV ea 3, errV ea 4, errV ea 5, errV ea 6, errV ea 7, errV ea 8, errV ea 9, errV ea 10, errV ea 11, errV ea 12, errV ea 13, errV ea 14, errV ea 15, errV ea 16, errV ea 17, errV ea 18, errV ea 19, .agg (arrV ea)], defers := [] }) rfl ?_
  go_wp2
  refine bodyPost_ret (v := .agg (arrV ea)) (results_cell_row Tryz.results91 _ _ w.heap.size 123 (arrV ea) (0, 0) _ rfl (setRow_heap _ _ _ _ _ _ (heap_alloc_new w _)) underArr rfl sizeArr) rfl ⟨rfl, ?_⟩
  exact gr_setRow _ _ _ _
set_option maxHeartbeats 2000000 in
theorem num_any {ea : Nat → Addr} (c : Int) (w : World) (hE : Env19 ea w) (h0 : 0 ≤ c) (h1 : c ≤ 19) : Calls Tryz.prog 29 #[errOf ea c] w fun e w' => e = .returned (.int .i64 c) ∧ Gr w w' := by
  by_cases hc : c = 0
  · subst hc
    go_enter Tryz.func29, Tryz.ntmps29
    go_wp2
    go_ret
    exact ⟨rfl, (by repeat (with_reducible first | assumption | exact Gr.refl _ | apply Gr.alloc | apply Gr.drewN | apply Gr.drew | apply Gr.iter | (refine Gr.setCell ?_ (by simp) _) | (refine Gr.trans ?_ (by assumption))))⟩
  · obtain ⟨j, rfl⟩ : ∃ j : Nat, c = ((j + 1 : Nat) : Int) := ⟨(c - 1).toNat, by omega⟩
    have hj : j < 19 := by omega
    have hz : decide (((j + 1 : Nat) : Int) = 0) = false := decide_eq_false hc
    obtain ⟨arr, harr⟩ : ∃ arr, arrV ea = arr := ⟨_, rfl⟩
    have HA := Lib.hid harr; clear harr
    have hV := errOf_V ea (j + 1) (by omega)
    have heq : ∀ w', (binOp .eql 28 (errOf ea ((j + 1 : Nat) : Int)) .nilIface).run Tryz.prog w' = .ok (.bool false) w' := fun w' => by rw [eql_err, hz]
    rw [hV] at heq ⊢
    clear hV hz hc
    obtain ⟨V, hVV⟩ : ∃ V, errV ea (j + 1) = V := ⟨_, rfl⟩
    have hg0 : eqGuard .eql 28 (.tmp 5) (.const .nilIface) V .nilIface = pure () := by rw [← hVV]; rfl
    rw [hVV] at heq ⊢
    have HV := Lib.hid hVV; clear hVV
    go_enter Tryz.func29, Tryz.ntmps29
    go_wp2_with (go_at_call 91; refine (numlist_any _ (hE.gr (by repeat (with_reducible first | assumption | exact Gr.refl _ | apply Gr.alloc | apply Gr.drewN | apply Gr.drew | apply Gr.iter | (refine Gr.setCell ?_ (by simp) _) | (refine Gr.trans ?_ (by assumption)))))).mono ?_; rw [HA.out]; rintro e w1 ⟨rfl, hg1⟩)
    go_loopw [8] (fun i wr => ∃ k : Nat, k ≤ j ∧ i = .int .i64 k ∧ Gr w wr) (fun i _ => 19 - (intOf i).toNat)
    case atStart => exact ⟨0, Nat.zero_le _, rfl, (by repeat (with_reducible first | assumption | exact Gr.refl _ | apply Gr.alloc | apply Gr.drewN | apply Gr.drew | apply Gr.iter | (refine Gr.setCell ?_ (by simp) _) | (refine Gr.trans ?_ (by assumption))))⟩
    case round =>
      obtain ⟨k, hk, rfl, hg⟩ := hrel
      have hlt : (k : Int) < 19 := by omega
      have hix := fun w' => index_arr ea k (by omega) w'
      rw [HA.out] at hix
      have hEr := hE.gr hg
      obtain ⟨U, hU⟩ : ∃ U, errV ea (k + 1) = U := ⟨_, rfl⟩
      rw [hU] at hix
      have hgd : ∀ x y, eqGuard .eql 28 x y V U = pure () := fun x y => by rw [← HV.out, ← hU]; rfl
      have hcmp : (binOp .eql 28 V U).run Tryz.prog wr = .ok (.bool (decide (j + 1 = k + 1))) wr := by
        rw [← HV.out, ← hU]
        exact eql_errV hEr (j + 1) (k + 1) (by omega) (by omega) (by omega) (by omega)
      clear hU
      by_cases hjk : k = j
      · subst hjk
        rw [decide_eq_true rfl] at hcmp
        go_wp2
        go_ret
        exact ⟨ret_int (by omega), (by repeat (with_reducible first | assumption | exact Gr.refl _ | apply Gr.alloc | apply Gr.drewN | apply Gr.drew | apply Gr.iter | (refine Gr.setCell ?_ (by simp) _) | (refine Gr.trans ?_ (by assumption))))⟩
      · rw [decide_eq_false (by omega)] at hcmp
        go_wp2
        go_roundw
        case rel => exact ⟨k + 1, by omega, by go_num, (by repeat (with_reducible first | assumption | exact Gr.refl _ | apply Gr.alloc | apply Gr.drewN | apply Gr.drew | apply Gr.iter | (refine Gr.setCell ?_ (by simp) _) | (refine Gr.trans ?_ (by assumption))))⟩
        case measure => simp [intOf]; omega

end Ve
