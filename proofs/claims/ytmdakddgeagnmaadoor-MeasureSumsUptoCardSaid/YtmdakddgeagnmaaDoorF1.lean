/- Walks of the laws of layer 14: of, fixed, base, at, kept; the law PlacesPlays. -/
import Derived.Test.YtmdakddgeagnmaaDoorL4
import Derived.Test.YtmdakddgeagnmaaDoorN1
set_option linter.all false
namespace Ve
open Go Go.RowKit Go.Proofs

theorem canon_sums {l : List Op} (h : canonL l = true) : sumB l ≤ 1099511627776 ∧ sumR l ≤ 1099511627776 ∧ lensL l = (sumB l, sumR l, 0) := by
  obtain ⟨h1, h2, h3, h4⟩ := canon_parts h
  obtain ⟨e1, e2, e3⟩ := lensFrom_sum h2 (by omega) (by omega)
  simp only [Int.zero_add] at e1 e2 e3
  refine ⟨e2, e3, ?_⟩
  unfold lensL
  rw [if_neg (by rw [bad_all h1]; simp), e1]
theorem canon_ok {l : List Op} (h : canonL l = true) : (∀ o ∈ l, checkOp o = 0) ∧ PsOk (l.map toPiece) ∧ bsum (l.map toPiece) ≤ 1099511627776 ∧ rsum (l.map toPiece) ≤ 1099511627776 ∧ (l.map toPiece).map Piece.op = l := by
  obtain ⟨h1, -, -, -⟩ := canon_parts h
  obtain ⟨s1, s2, -⟩ := canon_sums h
  exact ⟨h1, PsOk.of_ops h1, by rw [bsum_map h1]; exact s1, by rw [rsum_map h1]; exact s2, map_op h1⟩
/-- A literal list of operations without attributes. -/
def opCells (o : Op) : List Value := [.int .i64 o.kind, .string o.text, .int .i64 o.val.kind, .int .i64 o.val.num, .string o.val.text, .int .i64 o.count, .slice none 0 0]
theorem rows_lit (w : World) : ∀ l : List Op, (∀ o ∈ l, o.attrs = [] ∧ szS o.text ∧ szS o.val.text) → RowsR OpR 7 w l (l.flatMap opCells)
  | [], _ => rfl
  | o :: l, h => by
    obtain ⟨h1, h2, h3⟩ := h o (by simp)
    refine ⟨opCells o, l.flatMap opCells, by simp, rfl, ⟨.slice none 0 0, rfl, by rw [h1]; exact RdList.nil .., h2, h3⟩, rows_lit w l fun x hx => h x (by simp [hx])⟩
theorem rd_lit (w : World) (l : List Op) (n : Nat) (hn : l.length = n) (hb : n ≤ 1000) (h : ∀ o ∈ l, o.attrs = [] ∧ szS o.text ∧ szS o.val.text) (cs : Array Value) (hcs : cs.toList = l.flatMap opCells) (e : TypeId) :
    RdOps (w.alloc (.cells cs e)) (.slice (some ⟨w.heap.size, 0, none⟩) n n) l := by
  subst hn
  refine ⟨some ⟨w.heap.size, 0, none⟩, l.length, l.flatMap opCells, rfl, Nat.le_refl _, by unfold maxLen; omega, by omega, rows_lit _ l h, fun _ => ⟨w.heap.size, 0, rfl, fun j u hu => ?_⟩⟩
  rw [Nat.zero_add, (Blk.new w e cs).cell j, ← hu, ← hcs]
  simp
set_option maxHeartbeats 1000000 in
theorem of14_yes {ea : Nat → Addr} (l : List Op) (v : Value) (w : World) (hE : Env ea w) (hl : RdOps w v l) (hT : opsum l ≤ 1099511627776) (hN : 2 * l.length + 2 ≤ 1099511627776) (hc : canonL l = true) :
    Calls Tryd.prog 9 #[v] w fun e w' => ∃ v', e = .returned v' ∧ DeltaR w' v' (l.map toPiece) ∧ Gr w w' := by
  obtain ⟨a, n, cap, rfl, -, -, -, -⟩ := hl.sl
  obtain ⟨s, hs, hd⟩ := canon_push hc
  have HS := Lib.hid (And.intro hs hd); clear hs hd
  have HC := Lib.hid hc; clear hc
  go_enter Tryd.func9, Tryd.ntmps9
  go_wp2_with (first
    | (go_at_call 10; refine (rcanon_any l _ _ (hE.gr (by repeat (with_reducible first | assumption | exact Gr.refl _ | apply Gr.alloc | apply Gr.drewN | apply Gr.drew | apply Gr.iter | (refine Gr.setCell ?_ (by simp) _) | (refine Gr.trans ?_ (by assumption))))) (RdOps.gr hl (by repeat (with_reducible first | assumption | exact Gr.refl _ | apply Gr.alloc | apply Gr.drewN | apply Gr.drew | apply Gr.iter | (refine Gr.setCell ?_ (by simp) _) | (refine Gr.trans ?_ (by assumption)))))).mono ?_; rw [HC.out]; rintro e w1 ⟨rfl, hg1⟩)
    | (go_at_call 30; refine (bof_any l _ _ (hE.gr (by repeat (with_reducible first | assumption | exact Gr.refl _ | apply Gr.alloc | apply Gr.drewN | apply Gr.drew | apply Gr.iter | (refine Gr.setCell ?_ (by simp) _) | (refine Gr.trans ?_ (by assumption))))) (RdOps.gr hl (by repeat (with_reducible first | assumption | exact Gr.refl _ | apply Gr.alloc | apply Gr.drewN | apply Gr.drew | apply Gr.iter | (refine Gr.setCell ?_ (by simp) _) | (refine Gr.trans ?_ (by assumption))))) hT hN).mono ?_; rw [HS.out.1]; rintro e w2 ⟨v2, rfl, hg2, hd2, -⟩; have hd2 := hd2 rfl; rw [HS.out.2] at hd2; obtain ⟨g2, sl2, hv2, hbr2⟩ := hd2; subst hv2; dsimp only; rw [errOf_zero]))
  go_ret
  exact ⟨_, rfl, DeltaR.gr (w := w2) ⟨g2, sl2, rfl, hbr2⟩ (by repeat (with_reducible first | assumption | exact Gr.refl _ | apply Gr.alloc | apply Gr.drewN | apply Gr.drew | apply Gr.iter | (refine Gr.setCell ?_ (by simp) _) | (refine Gr.trans ?_ (by assumption)))), (by repeat (with_reducible first | assumption | exact Gr.refl _ | apply Gr.alloc | apply Gr.drewN | apply Gr.drew | apply Gr.iter | (refine Gr.setCell ?_ (by simp) _) | (refine Gr.trans ?_ (by assumption))))⟩
set_option maxHeartbeats 1000000 in
theorem of14_no {ea : Nat → Addr} (l : List Op) (v : Value) (w : World) (hE : Env ea w) (hl : RdOps w v l) (hc : canonL l = false) :
    Calls Tryd.prog 9 #[v] w fun e w' => e = .returned (.pointer none) ∧ Gr w w' := by
  obtain ⟨a, n, cap, rfl, -, -, -, -⟩ := hl.sl
  have HC := Lib.hid hc; clear hc
  go_enter Tryd.func9, Tryd.ntmps9
  go_wp2_with (go_at_call 10; refine (rcanon_any l _ _ (hE.gr (by repeat (with_reducible first | assumption | exact Gr.refl _ | apply Gr.alloc | apply Gr.drewN | apply Gr.drew | apply Gr.iter | (refine Gr.setCell ?_ (by simp) _) | (refine Gr.trans ?_ (by assumption))))) (RdOps.gr hl (by repeat (with_reducible first | assumption | exact Gr.refl _ | apply Gr.alloc | apply Gr.drewN | apply Gr.drew | apply Gr.iter | (refine Gr.setCell ?_ (by simp) _) | (refine Gr.trans ?_ (by assumption)))))).mono ?_; rw [HC.out]; rintro e w1 ⟨rfl, hg1⟩)
  go_ret
  exact ⟨rfl, (by repeat (with_reducible first | assumption | exact Gr.refl _ | apply Gr.alloc | apply Gr.drewN | apply Gr.drew | apply Gr.iter | (refine Gr.setCell ?_ (by simp) _) | (refine Gr.trans ?_ (by assumption))))⟩
def lit14 : List Op := [⟨3, es, ep, 2, []⟩, ⟨1, ⟨#[120, 121]⟩, ep, 0, []⟩, ⟨4, es, ep, 3, []⟩]
theorem lit14_small : ∀ o ∈ lit14, o.attrs = [] ∧ szS o.text ∧ szS o.val.text := by
  intro o ho
  simp only [lit14, List.mem_cons, List.mem_nil_iff, or_false] at ho
  rcases ho with rfl | rfl | rfl <;> exact ⟨rfl, by simp only [szS]; decide, by simp only [szS]; decide⟩
theorem lit14_canon : canonL lit14 = true := by decide +kernel
theorem lit14_p1 : placeP (lit14.map toPiece) 2 true = (4, 0) := by decide +kernel
theorem lit14_p2 : placeP (lit14.map toPiece) 4 false = (4, 0) := by decide +kernel
theorem lit14_r : rangeP (lit14.map toPiece) 2 6 = (4, 5, 0) := by decide +kernel
theorem lit14_b : backAt (lit14.map toPiece) 4 = (5, 0) := by decide +kernel
set_option maxHeartbeats 4000000 in
theorem fixed14_any {ea : Nat → Addr} (w : World) (hE : Env ea w) : Calls Tryd.prog 8 #[] w fun e w' => e = .returned (.bool true) ∧ Gr w w' := by
  obtain ⟨h1, h2, h3, h4, h5⟩ := canon_ok lit14_canon
  have hlit := rd_lit w lit14 3 rfl (by omega) lit14_small #[.int .i64 3, .string ⟨#[]⟩, .int .i64 0, .int .i64 0, .string ⟨#[]⟩, .int .i64 2, .slice none 0 0, .int .i64 1, .string ⟨#[120, 121]⟩, .int .i64 0, .int .i64 0, .string ⟨#[]⟩, .int .i64 0, .slice none 0 0, .int .i64 4, .string ⟨#[]⟩, .int .i64 0, .int .i64 0, .string ⟨#[]⟩, .int .i64 3, .slice none 0 0] rfl 51
  obtain ⟨ps, hps⟩ : ∃ ps, lit14.map toPiece = ps := ⟨_, rfl⟩
  have q1 := lit14_p1; have q2 := lit14_p2; have q3 := lit14_r; have q4 := lit14_b
  rw [hps] at h2 h3 h4 q1 q2 q3 q4
  have HQ := Lib.hid (And.intro q1 (And.intro q2 (And.intro q3 q4))); clear q1 q2 q3 q4 h5 h1
  have HPS := Lib.hid hps; clear hps
  have h3 := Lib.hid h3
  have h4 := Lib.hid h4
  go_enter Tryd.func8, Tryd.ntmps8
  go_wp2_with (first
    | (go_at_call 9; refine (of14_yes lit14 _ _ (hE.gr (by repeat (with_reducible first | assumption | exact Gr.refl _ | apply Gr.alloc | apply Gr.drewN | apply Gr.drew | apply Gr.iter | (refine Gr.setCell ?_ (by simp) _) | (refine Gr.trans ?_ (by assumption))))) (RdOps.gr hlit (by repeat (with_reducible first | assumption | exact Gr.refl _ | apply Gr.alloc | apply Gr.drewN | apply Gr.drew | apply Gr.iter | (refine Gr.setCell ?_ (by simp) _) | (refine Gr.trans ?_ (by assumption))))) (by decide) (by decide) lit14_canon).mono ?_; rw [HPS.out]; rintro e w1 ⟨v1, rfl, hd1, hg1⟩; obtain ⟨g1, sl1, hv1, hbr1⟩ := hd1; subst hv1; have hD : DeltaR w1 (.pointer (some ⟨g1, 0, none⟩)) ps := ⟨g1, sl1, rfl, hbr1⟩; clear hbr1)
    | (go_at_call 11; (with_reducible refine (place_any ps _ 2 true _ (hE.gr (by repeat (with_reducible first | assumption | exact Gr.refl _ | apply Gr.alloc | apply Gr.drewN | apply Gr.drew | apply Gr.iter | (refine Gr.setCell ?_ (by simp) _) | (refine Gr.trans ?_ (by assumption))))) (hD.gr (by repeat (with_reducible first | assumption | exact Gr.refl _ | apply Gr.alloc | apply Gr.drewN | apply Gr.drew | apply Gr.iter | (refine Gr.setCell ?_ (by simp) _) | (refine Gr.trans ?_ (by assumption))))) h2 h3.out h4.out).mono ?_); rw [HQ.out.1]; rintro e w2 ⟨rfl, hg2⟩; dsimp only; rw [errOf_zero])
    | (go_at_call 11; (with_reducible refine (place_any ps _ 4 false _ (hE.gr (by repeat (with_reducible first | assumption | exact Gr.refl _ | apply Gr.alloc | apply Gr.drewN | apply Gr.drew | apply Gr.iter | (refine Gr.setCell ?_ (by simp) _) | (refine Gr.trans ?_ (by assumption))))) (hD.gr (by repeat (with_reducible first | assumption | exact Gr.refl _ | apply Gr.alloc | apply Gr.drewN | apply Gr.drew | apply Gr.iter | (refine Gr.setCell ?_ (by simp) _) | (refine Gr.trans ?_ (by assumption))))) h2 h3.out h4.out).mono ?_); rw [HQ.out.2.1]; rintro e w3 ⟨rfl, hg3⟩; dsimp only; rw [errOf_zero])
    | (go_at_call 16; refine (range_any ps _ 2 6 _ (hE.gr (by repeat (with_reducible first | assumption | exact Gr.refl _ | apply Gr.alloc | apply Gr.drewN | apply Gr.drew | apply Gr.iter | (refine Gr.setCell ?_ (by simp) _) | (refine Gr.trans ?_ (by assumption))))) (hD.gr (by repeat (with_reducible first | assumption | exact Gr.refl _ | apply Gr.alloc | apply Gr.drewN | apply Gr.drew | apply Gr.iter | (refine Gr.setCell ?_ (by simp) _) | (refine Gr.trans ?_ (by assumption))))) h2 h3.out h4.out).mono ?_; rw [HQ.out.2.2.1]; rintro e w4 ⟨rfl, hg4⟩; dsimp only; rw [errOf_zero])
    | (go_at_call 14; refine (backAt_any ps _ 4 _ (hE.gr (by repeat (with_reducible first | assumption | exact Gr.refl _ | apply Gr.alloc | apply Gr.drewN | apply Gr.drew | apply Gr.iter | (refine Gr.setCell ?_ (by simp) _) | (refine Gr.trans ?_ (by assumption))))) (hD.gr (by repeat (with_reducible first | assumption | exact Gr.refl _ | apply Gr.alloc | apply Gr.drewN | apply Gr.drew | apply Gr.iter | (refine Gr.setCell ?_ (by simp) _) | (refine Gr.trans ?_ (by assumption))))) h2 h3.out h4.out).mono ?_; rw [HQ.out.2.2.2]; rintro e w5 ⟨rfl, hg5⟩; dsimp only; rw [errOf_zero]))
  go_ret
  exact ⟨rfl, (by repeat (with_reducible first | assumption | exact Gr.refl _ | apply Gr.alloc | apply Gr.drewN | apply Gr.drew | apply Gr.iter | (refine Gr.setCell ?_ (by simp) _) | (refine Gr.trans ?_ (by assumption))))⟩
end Ve
