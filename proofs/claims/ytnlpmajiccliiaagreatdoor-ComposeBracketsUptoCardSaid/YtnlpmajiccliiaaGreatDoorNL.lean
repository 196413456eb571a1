/- Layer 11's statements: their own functions; the law ComposePlays. -/
import Derived.Test.YtnlpmajiccliiaaGreatDoorGR
import Derived.Test.YtnlpmajiccliiaaGreatDoorNK
import Derived.Test.YtnlpmajiccliiaaGreatDoorPB
import Derived.Test.YtnlpmajiccliiaaGreatDoorN1
set_option linter.all false
namespace Ve
open Go Go.RowKit Go.Proofs

/-- What a compose of two lists of the row asks for. -/
theorem comp_pre {la lb : List Op} (hca : canonL la = true) (hcb : canonL lb = true) (ha : opsum la + atsum la + la.length ≤ 1048576) (hb : opsum lb + atsum lb + lb.length ≤ 1048576) :
    Can (la.map toPiece) ∧ Can (lb.map toPiece) ∧ (la.map toPiece).length + (lb.map toPiece).length ≤ 4000000 ∧ tsum (la.map toPiece) + tsum (lb.map toPiece) ≤ 4000000 ∧
      ∀ x ∈ stepsP ((la.map toPiece).length + (lb.map toPiece).length) (la.map toPiece) (lb.map toPiece), (∀ p, x.1 = some p → p.attrs.length ≤ 1048576) ∧ ∀ q, x.2 = some q → q.attrs.length ≤ 1048576 :=
  ⟨Can.of_canon hca, Can.of_canon hcb, (Szd.of hca ha).pre (Szd.of hcb hb) (Nat.le_refl _) (Nat.le_refl _)⟩

set_option maxHeartbeats 1000000 in
theorem of11_yes {ea : Nat → Addr} (l : List Op) (v : Value) (w : World) (hE : Env ea w) (hl : RdOps w v l) (hT : opsum l ≤ 1099511627776) (hN : 2 * l.length + 2 ≤ 1099511627776) (hc : canonL l = true) :
    Calls Tryz.prog 16 #[v] w fun e w' => ∃ v', e = .returned v' ∧ DeltaR w' v' (l.map toPiece) ∧ Gr w w' := by
  obtain ⟨a, n, cap, rfl, -, -, -, -⟩ := hl.sl
  obtain ⟨s, hs, hd⟩ := canon_push hc
  have HS := Lib.hid (And.intro hs hd); clear hs hd
  have HC := Lib.hid hc; clear hc
  go_enter Tryz.func16, Tryz.ntmps16
  go_wp2_with (first
    | (go_at_call 17; refine (rcanon_any l _ _ (hE.gr grOf) (RdOps.gr hl grOf)).mono ?_; rw [HC.out]; rintro e w1 ⟨rfl, hg1⟩)
    | (go_at_call 44; refine (bof_any l _ _ (hE.gr grOf) (RdOps.gr hl grOf) hT hN).mono ?_; rw [HS.out.1]; rintro e w2 ⟨v2, rfl, hg2, hd2, -⟩; have hd2 := hd2 rfl; rw [HS.out.2] at hd2; obtain ⟨g2, sl2, hv2, hbr2⟩ := hd2; subst hv2; dsimp only; rw [errOf_zero]))
  go_ret
  exact ⟨_, rfl, DeltaR.gr (w := w2) ⟨g2, sl2, rfl, hbr2⟩ grOf, grOf⟩
set_option maxHeartbeats 1000000 in
theorem of11_no {ea : Nat → Addr} (l : List Op) (v : Value) (w : World) (hE : Env ea w) (hl : RdOps w v l) (hc : canonL l = false) :
    Calls Tryz.prog 16 #[v] w fun e w' => e = .returned (.pointer none) ∧ Gr w w' := by
  obtain ⟨a, n, cap, rfl, -, -, -, -⟩ := hl.sl
  have HC := Lib.hid hc; clear hc
  go_enter Tryz.func16, Tryz.ntmps16
  go_wp2_with (go_at_call 17; refine (rcanon_any l _ _ (hE.gr grOf) (RdOps.gr hl grOf)).mono ?_; rw [HC.out]; rintro e w1 ⟨rfl, hg1⟩)
  go_ret
  exact ⟨rfl, grOf⟩
set_option maxHeartbeats 1000000 in
theorem of11_some {ea : Nat → Addr} (l : List Op) (v : Value) (w : World) (hE : Env ea w) (hl : RdOps w v l) (hT : opsum l ≤ 1099511627776) (hN : 2 * l.length + 2 ≤ 1099511627776) :
    Calls Tryz.prog 16 #[v] w fun e w' => ∃ v', e = .returned v' ∧ Gr w w' := by
  cases hc : canonL l with
  | false => exact (of11_no l v w hE hl hc).mono fun e w' ⟨h, g⟩ => ⟨_, h, g⟩
  | true => exact (of11_yes l v w hE hl hT hN hc).mono fun e w' ⟨v', h, _, g⟩ => ⟨v', h, g⟩


set_option maxHeartbeats 400000 in
theorem is11_any (ps : List Piece) (l : List Op) (v vl : Value) (w : World) (hD : DeltaR w v ps) (hgood : ∀ p ∈ ps, p.good) (hl : RdOps w vl l) :
    Calls Tryz.prog 21 #[v, vl] w fun e w' => e = .returned (.bool (decide (ps.map Piece.op = l))) ∧ Gr w w' := by
  have hlen := hD.short
  obtain ⟨g, sl, rfl, hB, hr⟩ := hD
  have hD : DeltaR w (.pointer (some ⟨g, 0, none⟩)) ps := ⟨g, sl, rfl, hB, hr⟩
  obtain ⟨al, nl, cl, rfl, -, -, -, -⟩ := hl.sl
  obtain ⟨L, hL⟩ : ∃ L, ps.map Piece.op = L := ⟨_, rfl⟩
  have hLl : L.length ≤ 1099511627776 := by rw [← hL]; simpa using hlen
  rw [hL]
  have HL := Lib.hid (And.intro hL hLl); clear hL hLl hB hr
  go_enter Tryz.func21, Tryz.ntmps21
  go_wp2_with (first
    | (go_at_call 24; refine (dops_any _ _ _ (hD.gr grOf) hgood).mono ?_; rw [HL.out.1]; rintro e w1 ⟨v1, rfl, ho1, hg1⟩; have hR1 := OwnOps.rd ho1 HL.out.2; obtain ⟨a1, n1, c1, rfl, -⟩ := ho1.sl)
    | (go_at_call 74; refine (rsame_any L l _ _ _ (RdOps.gr hR1 grOf) (RdOps.gr hl grOf)).mono ?_; rintro e w2 ⟨rfl, hg2⟩))
  go_ret
  exact ⟨rfl, grOf⟩


set_option maxHeartbeats 2000000 in
theorem told11_good {ea : Nat → Addr} (ps : List Piece) (v vl : Value) (w : World) (hE : Env19 ea w) (hD : DeltaR w v ps) (hgood : ∀ p ∈ ps, p.good) (hl : RdOps w vl (ps.map Piece.op)) :
    Calls Tryz.prog 20 #[v, .nilIface, vl, .int .i64 0] w fun e w' => e = .returned (.bool true) ∧ Gr w w' := by
  obtain ⟨g1, sl1, rfl, hbd, hrd⟩ := hD
  have hD : DeltaR w (.pointer (some ⟨g1, 0, none⟩)) ps := ⟨g1, sl1, rfl, hbd, hrd⟩
  clear hbd hrd
  obtain ⟨a, n, c, rfl, -⟩ := hl.sl
  go_enter Tryz.func20, Tryz.ntmps20
  go_wp2_with (first
    | (go_at_call 29; rw [← errOf_zero ea]; refine (num_any 0 _ (hE.gr grOf) (by omega) (by omega)).mono ?_; rintro e w1 ⟨rfl, hg1⟩)
    | (go_at_call 21; refine (is11_any ps (ps.map Piece.op) _ _ _ (hD.gr grOf) hgood (RdOps.gr hl grOf)).mono ?_; rw [decide_eq_true rfl]; rintro e w2 ⟨rfl, hg2⟩))
  go_ret
  exact ⟨rfl, grOf⟩
set_option maxHeartbeats 2000000 in
theorem told11_bad {ea : Nat → Addr} (E : Int) (vl : Value) (w : World) (hE : Env19 ea w) (h0 : 1 ≤ E) (h1 : E ≤ 19) :
    Calls Tryz.prog 20 #[.pointer none, errOf ea E, vl, .int .i64 E] w fun e w' => e = .returned (.bool true) ∧ Gr w w' := by
  have h0' : (E != 0) = true := by simp; omega
  go_enter Tryz.func20, Tryz.ntmps20
  go_wp2_with (go_at_call 29; refine (num_any E _ (hE.gr grOf) (by omega) h1).mono ?_; rintro e w1 ⟨rfl, hg1⟩)
  go_ret
  exact ⟨rfl, grOf⟩
theorem told11_any {ea : Nat → Addr} (U : List Un) (E : Int) (v vl : Value) (w : World) (hE : Env19 ea w) (hD : DUn U w v E) (hR : RUn U w vl E) :
    Calls Tryz.prog 20 #[v, errOf ea E, vl, .int .i64 E] w fun e w' => e = .returned (.bool true) ∧ Gr w w' := by
  rcases hD with ⟨rfl, Q, hQ, q1, q2, q3⟩ | ⟨h1, h2, rfl⟩
  · obtain ⟨R, hl, r1, r2, r3⟩ := hR rfl
    obtain rfl := units_inj q1 r1 q2 r2 (by rw [q3, r3])
    rw [errOf_zero]
    exact told11_good Q v vl w hE hQ q1.good hl
  · exact told11_bad E vl w hE h1 h2


theorem call_nil (w : World) : Calls Tryz.prog 22 #[.slice none 0 0] w fun e w' => ∃ v, e = .returned (.tuple #[v, .nilIface]) ∧ DeltaR w' v [] ∧ Gr w w' := by
  go_enter Tryz.func22, Tryz.ntmps22
  go_wp2_with (go_at_call 41; refine (empty_any _).mono ?_; rintro e w1 ⟨v1, rfl, hd1, hg1⟩; obtain ⟨g1, sl1, rfl, hd1⟩ := hd1)
  go_ret2
  exact ⟨_, rfl, ⟨_, _, rfl, hd1⟩, grOf⟩

def la11 : List Op := [⟨3, es, ep, 1, []⟩, ⟨4, es, ep, 1, []⟩]
def lb11 : List Op := [⟨3, es, ep, 1, []⟩, ⟨1, ⟨#[120]⟩, ep, 0, []⟩]
def lc11 : List Op := [⟨3, es, ep, 1, []⟩, ⟨1, ⟨#[120]⟩, ep, 0, []⟩, ⟨4, es, ep, 1, []⟩]
theorem small11 (l : List Op) (h : l = la11 ∨ l = lb11 ∨ l = lc11) : ∀ o ∈ l, o.attrs = [] ∧ szS o.text ∧ szS o.val.text := by
  intro o ho
  rcases h with rfl | rfl | rfl <;> simp only [la11, lb11, lc11, List.mem_cons, List.mem_nil_iff, or_false] at ho <;> (first | (rcases ho with rfl | rfl | rfl) | (rcases ho with rfl | rfl) | (subst ho)) <;> exact ⟨rfl, by simp only [szS]; decide, by simp only [szS]; decide⟩
theorem canon11a : canonL la11 = true := by decide +kernel
theorem canon11b : canonL lb11 = true := by decide +kernel
theorem canon11c : canonL lc11 = true := by decide +kernel
theorem steps11 : stepsP 4 (la11.map toPiece) (lb11.map toPiece) = [(some (.ret [] 1), some (.ret [] 1)), (none, some (.ins [] ⟨#[120]⟩ 1)), (some (.del 1), none)] := by decide +kernel
theorem down11 : downP (la11.map toPiece) (lb11.map toPiece) = lc11 := by
  have e : downP (la11.map toPiece) (lb11.map toPiece) = (stepsP 4 (la11.map toPiece) (lb11.map toPiece)).flatMap downS := rfl
  rw [e, steps11]
  simp only [List.flatMap_cons, List.flatMap_nil, downS, bothP, isRetP, compA, if_true, Piece.attrs, merge_nil, Piece.op]
  rfl
theorem comp11 : compL (la11.map toPiece) (lb11.map toPiece) = lc11 := by unfold compL; rw [down11]; decide +kernel
theorem cat11 : catE lc11 = 0 ∧ (putAll .new lc11).delta = lc11.map toPiece := by decide +kernel

set_option maxHeartbeats 8000000 in
theorem fixed11_any {ea : Nat → Addr} (w : World) (hE : Env ea w) : Calls Tryz.prog 15 #[] w fun e w' => e = .returned (.bool true) ∧ Gr w w' := by
  obtain ⟨-, okC, -, -, opC⟩ := canon_ok canon11c
  have sepC := canon_sep canon11c
  obtain ⟨p1, p2, p3, p4, p5⟩ := comp_pre canon11a canon11b (by decide) (by decide)
  have hC := cat11
  have hL := comp11
  obtain ⟨pa, hpa⟩ : ∃ pa, la11.map toPiece = pa := ⟨_, rfl⟩
  obtain ⟨pb, hpb⟩ : ∃ pb, lb11.map toPiece = pb := ⟨_, rfl⟩
  obtain ⟨pc, hpc⟩ : ∃ pc, lc11.map toPiece = pc := ⟨_, rfl⟩
  rw [hpa, hpb] at p3 p4 p5 hL
  rw [hpa] at p1
  rw [hpb] at p2
  rw [hpc] at okC opC sepC hC
  have HP := Lib.hid (And.intro hpa hpb); clear hpa hpb hpc
  have HK := Lib.hid (And.intro p3 (And.intro p4 p5)); clear p3 p4 p5
  have HC := Lib.hid (And.intro hL (And.intro hC.1 hC.2)); clear hL hC
  have OC := Lib.hid (And.intro opC sepC); clear opC sepC
  have hlit1 := rd_lit w la11 2 rfl (by omega) (small11 _ (.inl rfl)) #[.int .i64 3, .string ⟨#[]⟩, .int .i64 0, .int .i64 0, .string ⟨#[]⟩, .int .i64 1, .slice none 0 0, .int .i64 4, .string ⟨#[]⟩, .int .i64 0, .int .i64 0, .string ⟨#[]⟩, .int .i64 1, .slice none 0 0] rfl 65
  go_enter Tryz.func15, Tryz.ntmps15
  go_wp2_with (first
    | (go_at_call 16; (with_reducible refine (of11_yes la11 _ _ (hE.gr grOf) (RdOps.gr hlit1 grOf) (by decide) (by decide) canon11a).mono ?_); rw [HP.out.1]; rintro e w1 ⟨v1, rfl, hd1, hg1⟩; obtain ⟨g1, sl1, hv1, hbr1⟩ := hd1; subst hv1; have hDa : DeltaR w1 (.pointer (some ⟨g1, 0, none⟩)) pa := ⟨g1, sl1, rfl, hbr1⟩; clear hbr1; have hlit2 := rd_lit w1 lb11 2 rfl (by omega) (small11 _ (.inr (.inl rfl))) #[.int .i64 3, .string ⟨#[]⟩, .int .i64 0, .int .i64 0, .string ⟨#[]⟩, .int .i64 1, .slice none 0 0, .int .i64 1, .string ⟨#[120]⟩, .int .i64 0, .int .i64 0, .string ⟨#[]⟩, .int .i64 0, .slice none 0 0] rfl 65)
    | (go_at_call 16; (with_reducible refine (of11_yes lb11 _ _ (hE.gr grOf) (RdOps.gr hlit2 grOf) (by decide) (by decide) canon11b).mono ?_); rw [HP.out.2]; rintro e w2 ⟨v2, rfl, hd2, hg2⟩; obtain ⟨g2, sl2, hv2, hbr2⟩ := hd2; subst hv2; have hDb : DeltaR w2 (.pointer (some ⟨g2, 0, none⟩)) pb := ⟨g2, sl2, rfl, hbr2⟩; clear hbr2)
    | (go_at_call 18; refine (ccompose_told pa pb _ _ _ (hE.gr grOf) (hDa.gr grOf) (hDb.gr grOf) p1 p2 HK.out.1 HK.out.2.1 HK.out.2.2).mono ?_; rw [HC.out.1, HC.out.2.1, HC.out.2.2, errOf_zero]; rintro e w3 ⟨v3, rfl, hd3, hg3⟩; obtain ⟨-, Q, hQ, q1, q2, q3⟩ | ⟨h3, -⟩ := hd3; rotate_left; (exact absurd h3 (by decide)); obtain rfl := units_inj q1 okC q2 OC.out.2 q3; obtain ⟨g3, sl3, hv3, hbr3⟩ := hQ; subst hv3; have hDc : DeltaR w3 (.pointer (some ⟨g3, 0, none⟩)) Q := ⟨g3, sl3, rfl, hbr3⟩; clear hbr3)
    | (go_at_call 22; refine (call_nil _).mono ?_; rintro e w4 ⟨v4, rfl, hd4, hg4⟩; obtain ⟨g4, sl4, hv4, hbr4⟩ := hd4; subst hv4; have hDd : DeltaR w4 (.pointer (some ⟨g4, 0, none⟩)) [] := ⟨g4, sl4, rfl, hbr4⟩; clear hbr4; have hlit3 := rd_lit w4 lc11 3 rfl (by omega) (small11 _ (.inr (.inr rfl))) #[.int .i64 3, .string ⟨#[]⟩, .int .i64 0, .int .i64 0, .string ⟨#[]⟩, .int .i64 1, .slice none 0 0, .int .i64 1, .string ⟨#[120]⟩, .int .i64 0, .int .i64 0, .string ⟨#[]⟩, .int .i64 0, .slice none 0 0, .int .i64 4, .string ⟨#[]⟩, .int .i64 0, .int .i64 0, .string ⟨#[]⟩, .int .i64 1, .slice none 0 0] rfl 65)
    | (go_at_call 21; (with_reducible refine (is11_any Q lc11 _ _ _ (hDc.gr grOf) okC.good (RdOps.gr hlit3 grOf)).mono ?_); rw [OC.out.1, decide_eq_true (rfl : lc11 = lc11)]; rintro e w5 ⟨rfl, hg5⟩)
    | (go_at_call 21; (with_reducible refine (is11_any [] [] _ _ _ (hDd.gr grOf) (fun p hp => by simp at hp) (RdList.nil ..)).mono ?_); rw [List.map_nil, decide_eq_true (rfl : ([] : List Op) = [])]; rintro e w6 ⟨rfl, hg6⟩))
  all_goals go_ret
  all_goals exact ⟨rfl, grOf⟩


set_option maxRecDepth 20000 in
set_option maxHeartbeats 8000000 in
theorem composePlays_law {ea : Nat → Addr} (la : List Op) (va : Value) (lb : List Op) (vb : Value) (w : World) (hE : Env19 ea w) (ha : RdOps w va la) (hsa : opsum la + atsum la + la.length ≤ 1048576) (hb : RdOps w vb lb) (hsb : opsum lb + atsum lb + lb.length ≤ 1048576) :
    Calls Tryz.prog 3 #[va, vb] w fun e w' => e = .returned (.bool true) ∧ Gr w w' := by
  obtain ⟨a1, n1, c1, rfl, -, -, -, -⟩ := ha.sl
  obtain ⟨a2, n2, c2, rfl, -, -, -, -⟩ := hb.sl
  cases hca : canonL la with
  | false =>
    have HA := Lib.hid hca; clear hca
    cases hcb : canonL lb with
    | false =>
      have HB := Lib.hid hcb; clear hcb
      go_enter Tryz.func3, Tryz.ntmps3
      go_wp2_with (first
        | (go_at_call 15; refine (fixed11_any _ (hE.env.gr grOf)).mono ?_; rintro e w1 ⟨rfl, hg1⟩)
        | (go_at_call 16; (with_reducible refine (of11_no la _ _ (hE.env.gr grOf) (RdOps.gr ha grOf) HA.out).mono ?_); rintro e w2 ⟨rfl, hg2⟩)
        | (go_at_call 16; (with_reducible refine (of11_no lb _ _ (hE.env.gr grOf) (RdOps.gr hb grOf) HB.out).mono ?_); rintro e w3 ⟨rfl, hg3⟩)
        | (go_at_call 17; (with_reducible refine (rcanon_any la _ _ (hE.env.gr grOf) (RdOps.gr ha grOf)).mono ?_); rw [HA.out]; rintro e w4 ⟨rfl, hg4⟩))
      go_ret
      exact ⟨rfl, grOf⟩
    | true =>
      have HB := Lib.hid hcb; clear hcb
      go_enter Tryz.func3, Tryz.ntmps3
      go_wp2_with (first
        | (go_at_call 15; refine (fixed11_any _ (hE.env.gr grOf)).mono ?_; rintro e w1 ⟨rfl, hg1⟩)
        | (go_at_call 16; (with_reducible refine (of11_no la _ _ (hE.env.gr grOf) (RdOps.gr ha grOf) HA.out).mono ?_); rintro e w2 ⟨rfl, hg2⟩)
        | (go_at_call 16; (with_reducible refine (of11_yes lb _ _ (hE.env.gr grOf) (RdOps.gr hb grOf) (by omega) (by omega) HB.out).mono ?_); rintro e w3 ⟨v3, rfl, hd3, hg3⟩; obtain ⟨g3, sl3, hv3, hbr3⟩ := hd3; subst hv3; clear hbr3)
        | (go_at_call 17; (with_reducible refine (rcanon_any la _ _ (hE.env.gr grOf) (RdOps.gr ha grOf)).mono ?_); rw [HA.out]; rintro e w4 ⟨rfl, hg4⟩))
      go_ret
      exact ⟨rfl, grOf⟩
  | true =>
    cases hcb : canonL lb with
    | false =>
      have HA := Lib.hid hca; clear hca
      have HB := Lib.hid hcb; clear hcb
      go_enter Tryz.func3, Tryz.ntmps3
      go_wp2_with (first
        | (go_at_call 15; refine (fixed11_any _ (hE.env.gr grOf)).mono ?_; rintro e w1 ⟨rfl, hg1⟩)
        | (go_at_call 16; (with_reducible refine (of11_yes la _ _ (hE.env.gr grOf) (RdOps.gr ha grOf) (by omega) (by omega) HA.out).mono ?_); rintro e w2 ⟨v2, rfl, hd2, hg2⟩; obtain ⟨g2, sl2, hv2, hbr2⟩ := hd2; subst hv2; clear hbr2)
        | (go_at_call 16; (with_reducible refine (of11_no lb _ _ (hE.env.gr grOf) (RdOps.gr hb grOf) HB.out).mono ?_); rintro e w3 ⟨rfl, hg3⟩)
        | (go_at_call 17; (with_reducible refine (rcanon_any la _ _ (hE.env.gr grOf) (RdOps.gr ha grOf)).mono ?_); rw [HA.out]; rintro e w4 ⟨rfl, hg4⟩)
        | (go_at_call 17; (with_reducible refine (rcanon_any lb _ _ (hE.env.gr grOf) (RdOps.gr hb grOf)).mono ?_); rw [HB.out]; rintro e w5 ⟨rfl, hg5⟩))
      go_ret
      exact ⟨rfl, grOf⟩
    | true =>
      obtain ⟨-, o2, -, -, o5⟩ := canon_ok hca
      obtain ⟨-, p2, -, -, p5⟩ := canon_ok hcb
      obtain ⟨c1', c2', c3', c4', c5'⟩ := comp_pre hca hcb hsa hsb
      have HA := Lib.hid hca; clear hca
      have HB := Lib.hid hcb; clear hcb
      obtain ⟨PA, hPA⟩ : ∃ PA, la.map toPiece = PA := ⟨_, rfl⟩
      obtain ⟨PB, hPB⟩ : ∃ PB, lb.map toPiece = PB := ⟨_, rfl⟩
      rw [hPA, hPB] at c3' c4' c5'
      rw [hPA] at o2 o5 c1'
      rw [hPB] at p2 p5 c2'
      have HK := Lib.hid (And.intro c3' (And.intro c4' c5')); clear c3' c4' c5'
      have HO := Lib.hid (And.intro o5 p5); clear o5 p5
      have HP := Lib.hid (And.intro hPA hPB); clear hPA hPB
      obtain ⟨CE, hCE⟩ : ∃ CE, catE (compL PA PB) = CE := ⟨_, rfl⟩
      obtain ⟨CU, hCU⟩ : ∃ CU, units (putAll .new (compL PA PB)).delta = CU := ⟨_, rfl⟩
      have HC := Lib.hid (And.intro hCE hCU); clear hCE hCU
      go_enter Tryz.func3, Tryz.ntmps3
      go_wp2_with (first
        | (go_at_call 15; refine (fixed11_any _ (hE.env.gr grOf)).mono ?_; rintro e w1 ⟨rfl, hg1⟩)
        | (go_at_call 16; (with_reducible refine (of11_yes la _ _ (hE.env.gr grOf) (RdOps.gr ha grOf) (by omega) (by omega) HA.out).mono ?_); rw [HP.out.1]; rintro e w2 ⟨v2, rfl, hd2, hg2⟩; obtain ⟨g2, sl2, hv2, hbr2⟩ := hd2; subst hv2; have hDa : DeltaR w2 (.pointer (some ⟨g2, 0, none⟩)) PA := ⟨g2, sl2, rfl, hbr2⟩; clear hbr2)
        | (go_at_call 16; (with_reducible refine (of11_yes lb _ _ (hE.env.gr grOf) (RdOps.gr hb grOf) (by omega) (by omega) HB.out).mono ?_); rw [HP.out.2]; rintro e w3 ⟨v3, rfl, hd3, hg3⟩; obtain ⟨g3, sl3, hv3, hbr3⟩ := hd3; subst hv3; have hDb : DeltaR w3 (.pointer (some ⟨g3, 0, none⟩)) PB := ⟨g3, sl3, rfl, hbr3⟩; clear hbr3)
        | (go_at_call 18; refine (ccompose_told PA PB _ _ _ (hE.env.gr grOf) (hDa.gr grOf) (hDb.gr grOf) c1' c2' HK.out.1 HK.out.2.1 HK.out.2.2).mono ?_; rw [HC.out.1, HC.out.2]; rintro e w4 ⟨v4, rfl, hd4, hg4⟩)
        | (go_at_call 19; refine (rcompose11_any PA PB _ _ _ (hE.env.gr grOf) (HO.out.1.symm ▸ RdOps.gr ha grOf) (HO.out.2.symm ▸ RdOps.gr hb grOf) c1' c2' HK.out.1 HK.out.2.1 HK.out.2.2).mono ?_; rw [HC.out.1, HC.out.2]; rintro e w5 ⟨v5, rfl, hr5, hg5⟩)
        | (go_at_call 20; (with_reducible refine (told11_any CU CE v4 v5 _ (hE.gr grOf) (hd4.gr grOf) (hr5.gr grOf)).mono ?_); rintro e w6 ⟨rfl, hg6⟩)
        | (go_at_call 21; (with_reducible refine (is11_any PA la _ _ _ (hDa.gr grOf) o2.good (RdOps.gr ha grOf)).mono ?_); rw [HO.out.1, decide_eq_true (rfl : la = la)]; rintro e w7 ⟨rfl, hg7⟩)
        | (go_at_call 21; (with_reducible refine (is11_any PB lb _ _ _ (hDb.gr grOf) p2.good (RdOps.gr hb grOf)).mono ?_); rw [HO.out.2, decide_eq_true (rfl : lb = lb)]; rintro e w8 ⟨rfl, hg8⟩))
      all_goals go_ret
      all_goals exact ⟨rfl, grOf⟩

end Ve
