/- Shift; vellumlaw08.fixed; the law MeasureSums. -/
import Derived.Test.YtapolkhdikdjbaaGreatDoorM4
set_option linter.all false
namespace Ve
open Go Go.RowKit Go.Proofs

set_option maxHeartbeats 2000000 in
theorem shift_any {ea : Nat → Addr} (ps : List Piece) (v : Value) (n : Int) (L : List Op) (s1 s2 : Bld) (w : World) (hE : Env ea w) (hD : DeltaR w v ps) (hgood : ∀ p ∈ ps, p.good) (hL : ps.map Piece.op = L)
    (hn1 : 1 ≤ n) (hn2 : n ≤ 1099511627776) (hc : ps.length ≠ 0) (h1 : Bld.new.push ⟨3, es, ep, n, []⟩ = (s1, 0)) (h2 : pushFrom s1 0 L = (s2, 0, 0)) (hI : s1.Inv 0 1) (hT : opsum L ≤ 1099511627776) (hN : 2 * (1 + L.length) + 2 ≤ 1099511627776) :
    Calls Tryz.prog 62 #[v, .int .i64 n] w fun e w' => ∃ v', e = .returned (.tuple #[v', .nilIface]) ∧ DeltaR w' v' s2.delta ∧ Gr w w' := by
  obtain ⟨g1, sl1, rfl, hb1, hr1⟩ := hD
  have hD : DeltaR w (.pointer (some ⟨g1, 0, none⟩)) ps := ⟨g1, sl1, rfl, hb1, hr1⟩
  clear hb1 hr1
  have H1 := Lib.hid h1; clear h1
  have H2 := Lib.hid h2; clear h2
  obtain ⟨C, hC⟩ : ∃ C : Nat, ps.length = C := ⟨_, rfl⟩
  have HC := Lib.hid hC
  have hc0 : ((C : Int) == 0) = false := by rw [hC] at hc; simp; omega
  have hn0 : (n == 0) = false := by simp; omega
  clear hC hc
  go_enter Tryz.func62, Tryz.ntmps62
  go_wp2_with (first
    | (go_at_call 89; refine (dcount_any ps _ _ (hD.gr (by repeat (with_reducible first | assumption | exact Gr.refl _ | apply Gr.alloc | apply Gr.drewN | apply Gr.drew | apply Gr.iter | (refine Gr.setCell ?_ (by simp) _) | (refine Gr.trans ?_ (by assumption)))))).mono ?_; rw [HC.out]; rintro e w0 ⟨rfl, hg0⟩)
    | (go_at_call 33; refine (new_any _).mono ?_; rintro e w1 ⟨rfl, hB1, hg1⟩)
    | (go_at_call 119; refine (bretain_any w0.heap.size w0.heap.size .new n _ w0 (hE.gr (by repeat (with_reducible first | assumption | exact Gr.refl _ | apply Gr.alloc | apply Gr.drewN | apply Gr.drew | apply Gr.iter | (refine Gr.setCell ?_ (by simp) _) | (refine Gr.trans ?_ (by assumption))))) (by repeat (with_reducible first | assumption | exact Gr.refl _ | apply Gr.alloc | apply Gr.drewN | apply Gr.drew | apply Gr.iter | (refine Gr.setCell ?_ (by simp) _) | (refine Gr.trans ?_ (by assumption)))) (Nat.le_refl _) (BldR.gr (w := w1) hB1 (by repeat (with_reducible first | assumption | exact Gr.refl _ | apply Gr.alloc | apply Gr.drewN | apply Gr.drew | apply Gr.iter | (refine Gr.setCell ?_ (by simp) _) | (refine Gr.trans ?_ (by assumption))))) (by decide) (by decide) (by decide) (by decide) (by decide) (by decide) (by decide) (fun _ _ q r hq _ => by simp [Bld.new] at hq)).mono ?_; rw [H1.out]; rintro e w2 ⟨rfl, hk2, hB2⟩; have hg2 : Gr w0 w2 := Gr.kg (w := w1) (by repeat (with_reducible first | assumption | exact Gr.refl _ | apply Gr.alloc | apply Gr.drewN | apply Gr.drew | apply Gr.iter | (refine Gr.setCell ?_ (by simp) _) | (refine Gr.trans ?_ (by assumption)))) hk2 (Nat.le_refl _); dsimp only; rw [errOf_zero])
    | (go_at_call 116; refine (mpush_any w0.heap.size w0.heap.size s1 _ _ ps L _ _ w0 (hE.gr (by repeat (with_reducible first | assumption | exact Gr.refl _ | apply Gr.alloc | apply Gr.drewN | apply Gr.drew | apply Gr.iter | (refine Gr.setCell ?_ (by simp) _) | (refine Gr.trans ?_ (by assumption))))) (by repeat (with_reducible first | assumption | exact Gr.refl _ | apply Gr.alloc | apply Gr.drewN | apply Gr.drew | apply Gr.iter | (refine Gr.setCell ?_ (by simp) _) | (refine Gr.trans ?_ (by assumption)))) (Nat.le_refl _) (hD.gr (by repeat (with_reducible first | assumption | exact Gr.refl _ | apply Gr.alloc | apply Gr.drewN | apply Gr.drew | apply Gr.iter | (refine Gr.setCell ?_ (by simp) _) | (refine Gr.trans ?_ (by assumption))))) hgood hL (BldR.gr (w := w2) hB2 (by repeat (with_reducible first | assumption | exact Gr.refl _ | apply Gr.alloc | apply Gr.drewN | apply Gr.drew | apply Gr.iter | (refine Gr.setCell ?_ (by simp) _) | (refine Gr.trans ?_ (by assumption))))) hI (by omega) (by omega)).mono ?_; rw [H2.out]; rintro e w3 ⟨rfl, hk3, hx3⟩; obtain ⟨hB3, hI3⟩ := hx3 rfl; have hg3 : Gr w0 w3 := Gr.kg (w := w2) (by repeat (with_reducible first | assumption | exact Gr.refl _ | apply Gr.alloc | apply Gr.drewN | apply Gr.drew | apply Gr.iter | (refine Gr.setCell ?_ (by simp) _) | (refine Gr.trans ?_ (by assumption)))) hk3 (Nat.le_refl _); dsimp only; rw [errOf_zero])
    | (go_at_call 39; refine (delta_any w0.heap.size w0.heap.size s2 _ (BldR.gr (w := w3) hB3 (by repeat (with_reducible first | assumption | exact Gr.refl _ | apply Gr.alloc | apply Gr.drewN | apply Gr.drew | apply Gr.iter | (refine Gr.setCell ?_ (by simp) _) | (refine Gr.trans ?_ (by assumption))))) (by have := hI3.len; omega)).mono ?_; rintro e w4 ⟨v4, rfl, hd4, hg4⟩; obtain ⟨g4, sl4, rfl, hd4⟩ := hd4))
  go_ret2
  exact ⟨_, rfl, ⟨_, _, rfl, hd4⟩, (by repeat (with_reducible first | assumption | exact Gr.refl _ | apply Gr.alloc | apply Gr.drewN | apply Gr.drew | apply Gr.iter | (refine Gr.setCell ?_ (by simp) _) | (refine Gr.trans ?_ (by assumption))))⟩
def la08 : List Op := [⟨3, es, ep, 1, []⟩, ⟨4, es, ep, 2, []⟩]
def lb08 : List Op := [⟨1, ⟨#[120]⟩, ep, 0, []⟩]
def lc08 : List Op := [⟨3, es, ep, 1, []⟩, ⟨1, ⟨#[120]⟩, ep, 0, []⟩, ⟨4, es, ep, 2, []⟩]
def ls08 : List Op := [⟨3, es, ep, 4, []⟩, ⟨4, es, ep, 2, []⟩]
theorem small08 (l : List Op) (h : l = la08 ∨ l = lb08 ∨ l = lc08 ∨ l = ls08) : ∀ o ∈ l, o.attrs = [] ∧ szS o.text ∧ szS o.val.text := by
  intro o ho
  rcases h with rfl | rfl | rfl | rfl <;> simp only [la08, lb08, lc08, ls08, List.mem_cons, List.mem_nil_iff, or_false] at ho <;> (first | (rcases ho with rfl | rfl | rfl) | (rcases ho with rfl | rfl) | (subst ho)) <;> exact ⟨rfl, by simp only [szS]; decide, by simp only [szS]; decide⟩
theorem canon08a : canonL la08 = true := by decide +kernel
theorem canon08b : canonL lb08 = true := by decide +kernel
theorem num08a : bsum (la08.map toPiece) = 3 ∧ rsum (la08.map toPiece) = 1 ∧ dsum (la08.map toPiece) = 2 ∧ (la08.map toPiece).length ≠ 0 := by decide +kernel
theorem num08b : bsum (lb08.map toPiece) = 0 ∧ rsum (lb08.map toPiece) = 1 ∧ isum (lb08.map toPiece) = 1 := by decide +kernel
theorem cat08 : ∃ s1 s2, pushFrom .new 0 la08 = (s1, 0, 0) ∧ pushFrom s1 0 lb08 = (s2, 0, 0) ∧ s2.delta.map Piece.op = lc08 ∧ ∀ p ∈ s2.delta, p.good :=
  ⟨(pushFrom .new 0 la08).1, (pushFrom (pushFrom .new 0 la08).1 0 lb08).1, Prod.ext rfl (by decide +kernel), Prod.ext rfl (by decide +kernel), by decide +kernel, by
    rw [show (pushFrom (pushFrom .new 0 la08).1 0 lb08).1.delta = lc08.map toPiece by decide +kernel]
    exact (PsOk.of_ops (by decide +kernel)).good⟩
theorem sh08 : ∃ s1 s2, Bld.new.push ⟨3, es, ep, 3, []⟩ = (s1, 0) ∧ pushFrom s1 0 la08 = (s2, 0, 0) ∧ s1.Inv 0 1 ∧ s2.delta.map Piece.op = ls08 ∧ ∀ p ∈ s2.delta, p.good :=
  ⟨(Bld.new.push ⟨3, es, ep, 3, []⟩).1, (pushFrom (Bld.new.push ⟨3, es, ep, 3, []⟩).1 0 la08).1, Prod.ext rfl (by decide +kernel), Prod.ext rfl (by decide +kernel),
    Bld.Inv.new.push (o := ⟨3, es, ep, 3, []⟩) (by decide +kernel) (by simp only [szS]; decide), by decide +kernel, by
    rw [show (pushFrom (Bld.new.push ⟨3, es, ep, 3, []⟩).1 0 la08).1.delta = ls08.map toPiece by decide +kernel]
    exact (PsOk.of_ops (by decide +kernel)).good⟩
set_option maxHeartbeats 8000000 in
theorem fixed08_any {ea : Nat → Addr} (w : World) (hE : Env ea w) : Calls Tryz.prog 44 #[] w fun e w' => e = .returned (.bool true) ∧ Gr w w' := by
  obtain ⟨-, okA, bA, rA, opA⟩ := canon_ok canon08a
  obtain ⟨-, okB, bB, rB, opB⟩ := canon_ok canon08b
  obtain ⟨nA1, nA2, nA3, nA4⟩ := num08a
  obtain ⟨nB1, nB2, nB3⟩ := num08b
  obtain ⟨c1, c2, hc1, hc2, hc3, hc4⟩ := cat08
  obtain ⟨t1, t2, ht1, ht2, ht3, ht4, ht5⟩ := sh08
  obtain ⟨pa, hpa⟩ : ∃ pa, la08.map toPiece = pa := ⟨_, rfl⟩
  obtain ⟨pb, hpb⟩ : ∃ pb, lb08.map toPiece = pb := ⟨_, rfl⟩
  rw [hpa] at okA bA rA opA nA1 nA2 nA3 nA4
  rw [hpb] at okB bB rB opB nB1 nB2 nB3
  have HP := Lib.hid (And.intro hpa hpb); clear hpa hpb
  have NA := Lib.hid (And.intro nA1 (And.intro nA2 nA3)); clear nA1 nA2 nA3
  have NB := Lib.hid (And.intro nB1 (And.intro nB2 nB3)); clear nB1 nB2 nB3
  have SA := Lib.hid (And.intro bA rA); clear bA rA
  have SB := Lib.hid (And.intro bB rB); clear bB rB
  have HC := Lib.hid (And.intro hc1 (And.intro hc2 hc3)); clear hc1 hc2 hc3
  have HT := Lib.hid (And.intro ht1 (And.intro ht2 ht4)); clear ht1 ht2 ht4
  have OA := Lib.hid opA; clear opA
  have OB := Lib.hid opB; clear opB
  have NC := Lib.hid nA4; clear nA4
  have hlit1 := rd_lit w la08 2 rfl (by omega) (small08 _ (.inl rfl)) #[.int .i64 3, .string ⟨#[]⟩, .int .i64 0, .int .i64 0, .string ⟨#[]⟩, .int .i64 1, .slice none 0 0, .int .i64 4, .string ⟨#[]⟩, .int .i64 0, .int .i64 0, .string ⟨#[]⟩, .int .i64 2, .slice none 0 0] rfl 46
  go_enter Tryz.func44, Tryz.ntmps44
  go_wp2_with (first
    | (go_at_call 45; (with_reducible refine (of08_yes la08 _ _ (hE.gr (by repeat (with_reducible first | assumption | exact Gr.refl _ | apply Gr.alloc | apply Gr.drewN | apply Gr.drew | apply Gr.iter | (refine Gr.setCell ?_ (by simp) _) | (refine Gr.trans ?_ (by assumption))))) (RdOps.gr hlit1 (by repeat (with_reducible first | assumption | exact Gr.refl _ | apply Gr.alloc | apply Gr.drewN | apply Gr.drew | apply Gr.iter | (refine Gr.setCell ?_ (by simp) _) | (refine Gr.trans ?_ (by assumption))))) (by decide) (by decide) canon08a).mono ?_); rw [HP.out.1]; rintro e w1 ⟨v1, rfl, hd1, hg1⟩; obtain ⟨g1, sl1, hv1, hbr1⟩ := hd1; subst hv1; have hDa : DeltaR w1 (.pointer (some ⟨g1, 0, none⟩)) pa := ⟨g1, sl1, rfl, hbr1⟩; clear hbr1; have hlit2 := rd_lit w1 lb08 1 rfl (by omega) (small08 _ (.inr (.inl rfl))) #[.int .i64 1, .string ⟨#[120]⟩, .int .i64 0, .int .i64 0, .string ⟨#[]⟩, .int .i64 0, .slice none 0 0] rfl 46)
    | (go_at_call 45; (with_reducible refine (of08_yes lb08 _ _ (hE.gr (by repeat (with_reducible first | assumption | exact Gr.refl _ | apply Gr.alloc | apply Gr.drewN | apply Gr.drew | apply Gr.iter | (refine Gr.setCell ?_ (by simp) _) | (refine Gr.trans ?_ (by assumption))))) (RdOps.gr hlit2 (by repeat (with_reducible first | assumption | exact Gr.refl _ | apply Gr.alloc | apply Gr.drewN | apply Gr.drew | apply Gr.iter | (refine Gr.setCell ?_ (by simp) _) | (refine Gr.trans ?_ (by assumption))))) (by decide) (by decide) canon08b).mono ?_); rw [HP.out.2]; rintro e w2 ⟨v2, rfl, hd2, hg2⟩; obtain ⟨g2, sl2, hv2, hbr2⟩ := hd2; subst hv2; have hDb : DeltaR w2 (.pointer (some ⟨g2, 0, none⟩)) pb := ⟨g2, sl2, rfl, hbr2⟩; clear hbr2)
    | (go_at_call 47; refine (base_any pa _ _ (hE.gr (by repeat (with_reducible first | assumption | exact Gr.refl _ | apply Gr.alloc | apply Gr.drewN | apply Gr.drew | apply Gr.iter | (refine Gr.setCell ?_ (by simp) _) | (refine Gr.trans ?_ (by assumption))))) (hDa.gr (by repeat (with_reducible first | assumption | exact Gr.refl _ | apply Gr.alloc | apply Gr.drewN | apply Gr.drew | apply Gr.iter | (refine Gr.setCell ?_ (by simp) _) | (refine Gr.trans ?_ (by assumption))))) okA SA.out.1 SA.out.2).mono ?_; rw [NA.out.1]; rintro e w3 ⟨rfl, hg3⟩)
    | (go_at_call 49; refine (result_any pa _ _ (hE.gr (by repeat (with_reducible first | assumption | exact Gr.refl _ | apply Gr.alloc | apply Gr.drewN | apply Gr.drew | apply Gr.iter | (refine Gr.setCell ?_ (by simp) _) | (refine Gr.trans ?_ (by assumption))))) (hDa.gr (by repeat (with_reducible first | assumption | exact Gr.refl _ | apply Gr.alloc | apply Gr.drewN | apply Gr.drew | apply Gr.iter | (refine Gr.setCell ?_ (by simp) _) | (refine Gr.trans ?_ (by assumption))))) okA SA.out.1 SA.out.2).mono ?_; rw [NA.out.2.1]; rintro e w4 ⟨rfl, hg4⟩)
    | (go_at_call 53; refine (mdeleted_any pa _ _ (hE.gr (by repeat (with_reducible first | assumption | exact Gr.refl _ | apply Gr.alloc | apply Gr.drewN | apply Gr.drew | apply Gr.iter | (refine Gr.setCell ?_ (by simp) _) | (refine Gr.trans ?_ (by assumption))))) (hDa.gr (by repeat (with_reducible first | assumption | exact Gr.refl _ | apply Gr.alloc | apply Gr.drewN | apply Gr.drew | apply Gr.iter | (refine Gr.setCell ?_ (by simp) _) | (refine Gr.trans ?_ (by assumption))))) okA SA.out.1 SA.out.2).mono ?_; rw [NA.out.2.2]; rintro e w5 ⟨rfl, hg5⟩)
    | (go_at_call 51; refine (inserted_any pb _ _ (hE.gr (by repeat (with_reducible first | assumption | exact Gr.refl _ | apply Gr.alloc | apply Gr.drewN | apply Gr.drew | apply Gr.iter | (refine Gr.setCell ?_ (by simp) _) | (refine Gr.trans ?_ (by assumption))))) (hDb.gr (by repeat (with_reducible first | assumption | exact Gr.refl _ | apply Gr.alloc | apply Gr.drewN | apply Gr.drew | apply Gr.iter | (refine Gr.setCell ?_ (by simp) _) | (refine Gr.trans ?_ (by assumption))))) okB SB.out.1 SB.out.2).mono ?_; rw [NB.out.2.2]; rintro e w6 ⟨rfl, hg6⟩)
    | (go_at_call 55; (with_reducible refine (document_any pb _ _ (hE.gr (by repeat (with_reducible first | assumption | exact Gr.refl _ | apply Gr.alloc | apply Gr.drewN | apply Gr.drew | apply Gr.iter | (refine Gr.setCell ?_ (by simp) _) | (refine Gr.trans ?_ (by assumption))))) (hDb.gr (by repeat (with_reducible first | assumption | exact Gr.refl _ | apply Gr.alloc | apply Gr.drewN | apply Gr.drew | apply Gr.iter | (refine Gr.setCell ?_ (by simp) _) | (refine Gr.trans ?_ (by assumption))))) okB SB.out.1 SB.out.2).mono ?_); rw [NB.out.1]; rintro e w7 ⟨rfl, hg7⟩)
    | (go_at_call 55; (with_reducible refine (document_any pa _ _ (hE.gr (by repeat (with_reducible first | assumption | exact Gr.refl _ | apply Gr.alloc | apply Gr.drewN | apply Gr.drew | apply Gr.iter | (refine Gr.setCell ?_ (by simp) _) | (refine Gr.trans ?_ (by assumption))))) (hDa.gr (by repeat (with_reducible first | assumption | exact Gr.refl _ | apply Gr.alloc | apply Gr.drewN | apply Gr.drew | apply Gr.iter | (refine Gr.setCell ?_ (by simp) _) | (refine Gr.trans ?_ (by assumption))))) okA SA.out.1 SA.out.2).mono ?_); rw [NA.out.1]; rintro e w8 ⟨rfl, hg8⟩)
    | (go_at_call 57; refine (concat_any pa pb _ _ la08 lb08 c1 c2 _ (hE.gr (by repeat (with_reducible first | assumption | exact Gr.refl _ | apply Gr.alloc | apply Gr.drewN | apply Gr.drew | apply Gr.iter | (refine Gr.setCell ?_ (by simp) _) | (refine Gr.trans ?_ (by assumption))))) (hDa.gr (by repeat (with_reducible first | assumption | exact Gr.refl _ | apply Gr.alloc | apply Gr.drewN | apply Gr.drew | apply Gr.iter | (refine Gr.setCell ?_ (by simp) _) | (refine Gr.trans ?_ (by assumption))))) (hDb.gr (by repeat (with_reducible first | assumption | exact Gr.refl _ | apply Gr.alloc | apply Gr.drewN | apply Gr.drew | apply Gr.iter | (refine Gr.setCell ?_ (by simp) _) | (refine Gr.trans ?_ (by assumption))))) okA.good okB.good OA.out OB.out HC.out.1 HC.out.2.1 (by decide) (by decide)).mono ?_; rintro e w9 ⟨v9, rfl, hd9, hg9⟩; obtain ⟨g9, sl9, hv9, hbr9⟩ := hd9; subst hv9; have hDc : DeltaR w9 (.pointer (some ⟨g9, 0, none⟩)) c2.delta := ⟨g9, sl9, rfl, hbr9⟩; clear hbr9)
    | (go_at_call 62; refine (shift_any pa _ 3 la08 t1 t2 _ (hE.gr (by repeat (with_reducible first | assumption | exact Gr.refl _ | apply Gr.alloc | apply Gr.drewN | apply Gr.drew | apply Gr.iter | (refine Gr.setCell ?_ (by simp) _) | (refine Gr.trans ?_ (by assumption))))) (hDa.gr (by repeat (with_reducible first | assumption | exact Gr.refl _ | apply Gr.alloc | apply Gr.drewN | apply Gr.drew | apply Gr.iter | (refine Gr.setCell ?_ (by simp) _) | (refine Gr.trans ?_ (by assumption))))) okA.good OA.out (by decide) (by decide) NC.out HT.out.1 HT.out.2.1 ht3 (by decide) (by decide)).mono ?_; rintro e w10 ⟨v10, rfl, hd10, hg10⟩; obtain ⟨g10, sl10, hv10, hbr10⟩ := hd10; subst hv10; have hDs : DeltaR w10 (.pointer (some ⟨g10, 0, none⟩)) t2.delta := ⟨g10, sl10, rfl, hbr10⟩; clear hbr10; have hlit3 := rd_lit w10 lc08 3 rfl (by omega) (small08 _ (.inr (.inr (.inl rfl)))) #[.int .i64 3, .string ⟨#[]⟩, .int .i64 0, .int .i64 0, .string ⟨#[]⟩, .int .i64 1, .slice none 0 0, .int .i64 1, .string ⟨#[120]⟩, .int .i64 0, .int .i64 0, .string ⟨#[]⟩, .int .i64 0, .slice none 0 0, .int .i64 4, .string ⟨#[]⟩, .int .i64 0, .int .i64 0, .string ⟨#[]⟩, .int .i64 2, .slice none 0 0] rfl 46)
    | (go_at_call 64; (with_reducible refine (is08_any c2.delta lc08 _ _ _ (hDc.gr (by repeat (with_reducible first | assumption | exact Gr.refl _ | apply Gr.alloc | apply Gr.drewN | apply Gr.drew | apply Gr.iter | (refine Gr.setCell ?_ (by simp) _) | (refine Gr.trans ?_ (by assumption))))) hc4 (RdOps.gr hlit3 (by repeat (with_reducible first | assumption | exact Gr.refl _ | apply Gr.alloc | apply Gr.drewN | apply Gr.drew | apply Gr.iter | (refine Gr.setCell ?_ (by simp) _) | (refine Gr.trans ?_ (by assumption)))))).mono ?_); rw [HC.out.2.2, decide_eq_true (rfl : lc08 = lc08)]; rintro e w11 ⟨rfl, hg11⟩; have hlit4 := rd_lit w11 ls08 2 rfl (by omega) (small08 _ (.inr (.inr (.inr rfl)))) #[.int .i64 3, .string ⟨#[]⟩, .int .i64 0, .int .i64 0, .string ⟨#[]⟩, .int .i64 4, .slice none 0 0, .int .i64 4, .string ⟨#[]⟩, .int .i64 0, .int .i64 0, .string ⟨#[]⟩, .int .i64 2, .slice none 0 0] rfl 46)
    | (go_at_call 64; (with_reducible refine (is08_any t2.delta ls08 _ _ _ (hDs.gr (by repeat (with_reducible first | assumption | exact Gr.refl _ | apply Gr.alloc | apply Gr.drewN | apply Gr.drew | apply Gr.iter | (refine Gr.setCell ?_ (by simp) _) | (refine Gr.trans ?_ (by assumption))))) ht5 (RdOps.gr hlit4 (by repeat (with_reducible first | assumption | exact Gr.refl _ | apply Gr.alloc | apply Gr.drewN | apply Gr.drew | apply Gr.iter | (refine Gr.setCell ?_ (by simp) _) | (refine Gr.trans ?_ (by assumption)))))).mono ?_); rw [HT.out.2.2, decide_eq_true (rfl : ls08 = ls08)]; rintro e w12 ⟨rfl, hg12⟩))
  all_goals go_ret
  all_goals exact ⟨rfl, (by repeat (with_reducible first | assumption | exact Gr.refl _ | apply Gr.alloc | apply Gr.drewN | apply Gr.drew | apply Gr.iter | (refine Gr.setCell ?_ (by simp) _) | (refine Gr.trans ?_ (by assumption))))⟩
end Ve
