/- The law ComposeReach. -/
import Derived.Test.YtnlpmajiccliiaaGreatDoorGR
import Derived.Test.YtnlpmajiccliiaaGreatDoorNM
import Derived.Test.YtnlpmajiccliiaaGreatDoorPC
set_option linter.all false
namespace Ve
open Go Go.RowKit Go.Proofs

theorem rd_dl1 {w : World} {g g1 : Nat} {T : TypeId} {A : List Piece} (h1 : DeltaR w (.pointer (some ⟨g1, 0, none⟩)) A) (h : Blk w g T #[.pointer (some ⟨g1, 0, none⟩)]) : RdDl w (.slice (some ⟨g, 0, none⟩) 1 1) [A] := by
  refine ⟨some ⟨g, 0, none⟩, 1, [.pointer (some ⟨g1, 0, none⟩)], rfl, Nat.le_refl _, by simp [maxLen], by simp, ⟨[_], _, rfl, rfl, ⟨g1, rfl, h1⟩, rfl⟩, fun _ => ⟨g, 0, rfl, fun j u hu => ?_⟩⟩
  rw [Nat.zero_add, h.cell j, ← hu]
  simp

set_option maxRecDepth 20000 in
set_option maxHeartbeats 8000000 in
theorem composeReach_law {ea : Nat → Addr} (la : List Op) (va : Value) (lb : List Op) (vb : Value) (w : World) (hE : Env19 ea w) (ha : RdOps w va la) (hsa : opsum la + atsum la + la.length ≤ 1048576) (hb : RdOps w vb lb) (hsb : opsum lb + atsum lb + lb.length ≤ 1048576) :
    Calls Tryz.prog 11 #[va, vb] w fun e w' => e = .returned (.bool true) ∧ Gr w w' := by
  obtain ⟨a1, n1, c1, rfl, -, -, -, -⟩ := ha.sl
  obtain ⟨a2, n2, c2, rfl, -, -, -, -⟩ := hb.sl
  cases hca : canonL la with
  | false =>
    have HA := Lib.hid hca; clear hca
    go_enter Tryz.func11, Tryz.ntmps11
    go_wp2_with (first
      | (go_at_call 15; (with_reducible refine (fixed11_any _ (hE.env.gr grOf)).mono ?_); rintro e w1 ⟨rfl, hg1⟩)
      | (go_at_call 16; (with_reducible refine (of11_no la _ _ (hE.env.gr grOf) (RdOps.gr ha grOf) HA.out).mono ?_); rintro e w2 ⟨rfl, hg2⟩)
      | (go_at_call 16; (with_reducible refine (of11_some lb _ _ (hE.env.gr grOf) (RdOps.gr hb grOf) (by omega) (by omega)).mono ?_); rintro e w3 ⟨v3, rfl, hg3⟩)
      | (go_at_call 41; (with_reducible refine (empty_any _).mono ?_); rintro e w4 ⟨v4, rfl, hd4, hg4⟩; obtain ⟨g4, sl4, hv4, hbr4⟩ := hd4; subst hv4; clear hbr4))
    go_ret
    exact ⟨rfl, grOf⟩
  | true =>
    cases hcb : canonL lb with
    | false =>
      have HA := Lib.hid hca; clear hca
      have HB := Lib.hid hcb; clear hcb
      go_enter Tryz.func11, Tryz.ntmps11
      go_wp2_with (first
        | (go_at_call 15; (with_reducible refine (fixed11_any _ (hE.env.gr grOf)).mono ?_); rintro e w1 ⟨rfl, hg1⟩)
        | (go_at_call 16; (with_reducible refine (of11_yes la _ _ (hE.env.gr grOf) (RdOps.gr ha grOf) (by omega) (by omega) HA.out).mono ?_); rintro e w2 ⟨v2, rfl, hd2, hg2⟩; obtain ⟨g2, sl2, hv2, hbr2⟩ := hd2; subst hv2; clear hbr2)
        | (go_at_call 16; (with_reducible refine (of11_no lb _ _ (hE.env.gr grOf) (RdOps.gr hb grOf) HB.out).mono ?_); rintro e w3 ⟨rfl, hg3⟩)
        | (go_at_call 41; (with_reducible refine (empty_any _).mono ?_); rintro e w4 ⟨v4, rfl, hd4, hg4⟩; obtain ⟨g4, sl4, hv4, hbr4⟩ := hd4; subst hv4; clear hbr4))
      go_ret
      exact ⟨rfl, grOf⟩
    | true =>
      obtain ⟨-, o2, o3, o4, o5⟩ := canon_ok hca
      obtain ⟨-, p2, p3, p4, -⟩ := canon_ok hcb
      have SA := Szd.of hca hsa
      have SB := Szd.of hcb hsb
      have HA := Lib.hid hca; clear hca
      have HB := Lib.hid hcb; clear hcb
      obtain ⟨PA, hPA⟩ : ∃ PA, la.map toPiece = PA := ⟨_, rfl⟩
      obtain ⟨PB, hPB⟩ : ∃ PB, lb.map toPiece = PB := ⟨_, rfl⟩
      rw [hPA] at o2 o3 o4 o5 SA
      rw [hPB] at p2 p3 p4 SB
      have sz0 : SzL 0 [] := trivial
      have SN : Szd 0 [] := ⟨can_nil, 0, 0, Nat.le_refl _, fun p hp => by simp at hp, by simp⟩
      have HK1 := Lib.hid (SA.pre SB (Nat.le_refl _) (Nat.le_refl _))
      have HK2 := Lib.hid (SA.pre SN (Nat.le_refl _) (by omega))
      have HK3 := Lib.hid (SN.pre SA (by omega) (Nat.le_refl _))
      obtain ⟨z1, z2⟩ := comp_nil_fits SA.can
      have x1 := cmp_nil_right (comp_cmp SA.can can_nil HK2.out.1 HK2.out.2.1 z1) SA.can
      have x2 := cmp_nil_left (comp_cmp can_nil SA.can HK3.out.1 HK3.out.2.1 z2) SA.can
      have HZ := Lib.hid (And.intro z1 (And.intro z2 (And.intro x1 x2))); clear z1 z2 x1 x2
      have HO := Lib.hid o5; clear o5
      have HP := Lib.hid (And.intro hPA hPB); clear hPA hPB
      have hsA := Lib.hid (And.intro o3 o4)
      have hsB := Lib.hid (And.intro p3 p4)
      obtain ⟨t1, t2, t3, t4⟩ := ps_nn o2
      obtain ⟨u1, u2, u3, u4⟩ := ps_nn p2
      obtain ⟨m1, m2, m3, m4, m5⟩ := comp_sums SA.can SB.can
      have hX := fun h => comp_cmp SA.can SB.can HK1.out.1 HK1.out.2.1 h
      obtain ⟨b1, hb1⟩ : ∃ x, bsum PA = x := ⟨_, rfl⟩
      obtain ⟨r1, hr1⟩ : ∃ x, rsum PA = x := ⟨_, rfl⟩
      obtain ⟨i1, hi1⟩ : ∃ x, isum PA = x := ⟨_, rfl⟩
      obtain ⟨d1, hd1⟩ : ∃ x, dsum PA = x := ⟨_, rfl⟩
      obtain ⟨b2, hb2⟩ : ∃ x, bsum PB = x := ⟨_, rfl⟩
      obtain ⟨r2, hr2⟩ : ∃ x, rsum PB = x := ⟨_, rfl⟩
      obtain ⟨i2, hi2⟩ : ∃ x, isum PB = x := ⟨_, rfl⟩
      obtain ⟨d2, hd2⟩ : ∃ x, dsum PB = x := ⟨_, rfl⟩
      rw [hb1] at o3 t1 m1; rw [hr1] at o4 t2 m1 m2; rw [hi1] at t3 m4; rw [hd1] at t4 m5
      rw [hb2] at p3 u1 m1; rw [hr2] at p4 u2 m2; rw [hi2] at u3 m4; rw [hd2] at u4 m5
      have i1b : i1 ≤ 1099511627776 := by obtain ⟨-, k1, -, -, k2⟩ := sums_nn o2.nn; omega
      have d1b : d1 ≤ 1099511627776 := by obtain ⟨-, k1, -, k2, -⟩ := sums_nn o2.nn; omega
      have i2b : i2 ≤ 1099511627776 := by obtain ⟨-, k1, -, -, k2⟩ := sums_nn p2.nn; omega
      have d2b : d2 ≤ 1099511627776 := by obtain ⟨-, k1, -, k2, -⟩ := sums_nn p2.nn; omega
      have HN := Lib.hid (And.intro hb1 (And.intro hr1 (And.intro hi1 (And.intro hd1 (And.intro hb2 (And.intro hr2 (And.intro hi2 hd2))))))); clear hb1 hr1 hi1 hd1 hb2 hr2 hi2 hd2
      obtain ⟨E1, hE1⟩ : ∃ E, catE (compL PA PB) = E := ⟨_, rfl⟩
      obtain ⟨X, hX'⟩ : ∃ x, (putAll .new (compL PA PB)).delta = x := ⟨_, rfl⟩
      have e1 := catE_or (compL PA PB)
      have hcat : E1 = 11 → 1099511627776 < sumB (compL PA PB) ∨ 1099511627776 < sumR (compL PA PB) := fun h => by
        rw [← hE1] at h
        unfold catE at h
        split at h
        · simp at h
        · omega
      rw [hE1] at hX e1; rw [hX'] at hX m3 m4 m5
      have H1 := Lib.hid (And.intro hE1 hX'); clear hE1 hX'
      obtain ⟨SB1, hSB1⟩ : ∃ x, sumB (compL PA PB) = x := ⟨_, rfl⟩
      obtain ⟨SR1, hSR1⟩ : ∃ x, sumR (compL PA PB) = x := ⟨_, rfl⟩
      rw [hSB1] at m1 m3 hcat; rw [hSR1] at m2 hcat
      clear hSB1 hSR1
      rcases e1 with rfl | rfl
      · have hX := hX rfl
        obtain ⟨y1, y2, y3, y4⟩ := ps_nn hX.can.ok
        have hsX := Lib.hid (And.intro hX.can.b hX.can.r)
        have hXb := hX.can.b
        have hXok := hX.can.ok
        obtain ⟨bx, hbx⟩ : ∃ x, bsum X = x := ⟨_, rfl⟩
        obtain ⟨ix, hix⟩ : ∃ x, isum X = x := ⟨_, rfl⟩
        obtain ⟨dx, hdx⟩ : ∃ x, dsum X = x := ⟨_, rfl⟩
        rw [hbx] at y1 m3 hXb; rw [hix] at y3 m4; rw [hdx] at y4 m5
        have HX := Lib.hid (And.intro hbx (And.intro hix hdx)); clear hbx hix hdx hX hcat
        go_enter Tryz.func11, Tryz.ntmps11
        go_wp2_with (first
          | (go_at_call 15; (with_reducible refine (fixed11_any _ (hE.env.gr grOf)).mono ?_); rintro e w1 ⟨rfl, hg1⟩)
          | (go_at_call 16; (with_reducible refine (of11_yes la _ _ (hE.env.gr grOf) (RdOps.gr ha grOf) (by omega) (by omega) HA.out).mono ?_); rw [HP.out.1]; rintro e w2 ⟨v2, rfl, hd2, hg2⟩; obtain ⟨g2, hv2⟩ := hd2.ptr; subst hv2)
          | (go_at_call 16; (with_reducible refine (of11_yes lb _ _ (hE.env.gr grOf) (RdOps.gr hb grOf) (by omega) (by omega) HB.out).mono ?_); rw [HP.out.2]; rintro e w3 ⟨v3, rfl, hd3, hg3⟩; obtain ⟨g3, hv3⟩ := hd3.ptr; subst hv3)
          | (go_at_call 41; (with_reducible refine (empty_any _).mono ?_); rintro e w4 ⟨v4, rfl, hd4, hg4⟩; obtain ⟨g4, hv4⟩ := hd4.ptr; subst hv4)
          | (go_at_call 18; (with_reducible refine (ccompose_cmp PA [] _ _ _ (hE.env.gr grOf) (hd2.gr grOf) (hd4.gr grOf) SA.can can_nil HK2.out).mono ?_); rw [HZ.out.1]; rintro e w5 ⟨v5, rfl, hr5, hg5⟩; have hd5 := CmpR.ok hr5; rw [HZ.out.2.2.1] at hd5; obtain ⟨g5, hv5⟩ := hd5.ptr; subst hv5; clear hr5; rw [errOf_zero])
          | (go_at_call 18; (with_reducible refine (ccompose_cmp [] PA _ _ _ (hE.env.gr grOf) (hd4.gr grOf) (hd2.gr grOf) can_nil SA.can HK3.out).mono ?_); rw [HZ.out.2.1]; rintro e w6 ⟨v6, rfl, hr6, hg6⟩; have hd6 := CmpR.ok hr6; rw [HZ.out.2.2.2] at hd6; obtain ⟨g6, hv6⟩ := hd6.ptr; subst hv6; clear hr6; rw [errOf_zero])
          | (go_at_call 22; refine callsAt ?_; intro W hW; (have hB7 : Blk W w6.heap.size 24 #[.pointer (some ⟨g2, 0, none⟩)] := by (subst hW; exact Blk.new _ _ _)); (have hgW : Gr w6 W := by (subst hW; exact grOf)); clear hW; go_loud (with_reducible refine (call_any PA [] _ _ 1048576 0 (hE.env.gr grOf) (rd_dl1 (hd2.gr grOf) hB7) SA sz0 (by omega)).mono ?_); rintro e w7 ⟨v7, E7, rfl, hf7, hg7⟩; obtain ⟨D7, hD7, rfl, hd7⟩ | ⟨hD7, -⟩ := hf7; rotate_left; (exact absurd hD7 (by simp [foldC])); obtain rfl : PA = D7 := Option.some.inj hD7; obtain ⟨g7, hv7⟩ := hd7.ptr; subst hv7; rw [errOf_zero])
          | (go_at_call 21; (with_reducible refine (is11_any PA la _ _ _ (hd5.gr grOf) o2.good (RdOps.gr ha grOf)).mono ?_); rw [HO.out, decide_eq_true (rfl : la = la)]; rintro e w8 ⟨rfl, hg8⟩)
          | (go_at_call 21; (with_reducible refine (is11_any PA la _ _ _ (hd6.gr grOf) o2.good (RdOps.gr ha grOf)).mono ?_); rw [HO.out, decide_eq_true (rfl : la = la)]; rintro e w9 ⟨rfl, hg9⟩)
          | (go_at_call 21; (with_reducible refine (is11_any PA la _ _ _ (hd7.gr grOf) o2.good (RdOps.gr ha grOf)).mono ?_); rw [HO.out, decide_eq_true (rfl : la = la)]; rintro e w10 ⟨rfl, hg10⟩)
          | (go_at_call 18; (with_reducible refine (ccompose_cmp PA PB _ _ _ (hE.env.gr grOf) (hd2.gr grOf) (hd3.gr grOf) SA.can SB.can HK1.out).mono ?_); rw [H1.out.1]; rintro e w11 ⟨v11, rfl, hr11, hg11⟩; have hd11 := CmpR.ok hr11; rw [H1.out.2] at hd11; obtain ⟨g11, hv11⟩ := hd11.ptr; subst hv11; clear hr11; rw [errOf_zero])
          | (go_at_call 52; (with_reducible refine (base_any PA _ _ (hE.env.gr grOf) (hd2.gr grOf) o2 hsA.out.1 hsA.out.2).mono ?_); rw [HN.out.1]; rintro e w12 ⟨rfl, hg12⟩)
          | (go_at_call 52; (with_reducible refine (base_any PB _ _ (hE.env.gr grOf) (hd3.gr grOf) p2 hsB.out.1 hsB.out.2).mono ?_); rw [HN.out.2.2.2.2.1]; rintro e w13 ⟨rfl, hg13⟩)
          | (go_at_call 53; (with_reducible refine (result_any PA _ _ (hE.env.gr grOf) (hd2.gr grOf) o2 hsA.out.1 hsA.out.2).mono ?_); rw [HN.out.2.1]; rintro e w14 ⟨rfl, hg14⟩)
          | (go_at_call 52; (with_reducible refine (base_any X _ _ (hE.env.gr grOf) (hd11.gr grOf) hXok hsX.out.1 hsX.out.2).mono ?_); rw [HX.out.1]; rintro e w15 ⟨rfl, hg15⟩)
          | (go_at_call 54; (with_reducible refine (inserted_any X _ _ (hE.env.gr grOf) (hd11.gr grOf) hXok hsX.out.1 hsX.out.2).mono ?_); rw [HX.out.2.1]; rintro e w16 ⟨rfl, hg16⟩)
          | (go_at_call 54; (with_reducible refine (inserted_any PA _ _ (hE.env.gr grOf) (hd2.gr grOf) o2 hsA.out.1 hsA.out.2).mono ?_); rw [HN.out.2.2.1]; rintro e w17 ⟨rfl, hg17⟩)
          | (go_at_call 54; (with_reducible refine (inserted_any PB _ _ (hE.env.gr grOf) (hd3.gr grOf) p2 hsB.out.1 hsB.out.2).mono ?_); rw [HN.out.2.2.2.2.2.2.1]; rintro e w18 ⟨rfl, hg18⟩)
          | (go_at_call 55; (with_reducible refine (mdeleted_any X _ _ (hE.env.gr grOf) (hd11.gr grOf) hXok hsX.out.1 hsX.out.2).mono ?_); rw [HX.out.2.2]; rintro e w19 ⟨rfl, hg19⟩)
          | (go_at_call 55; (with_reducible refine (mdeleted_any PA _ _ (hE.env.gr grOf) (hd2.gr grOf) o2 hsA.out.1 hsA.out.2).mono ?_); rw [HN.out.2.2.2.1]; rintro e w20 ⟨rfl, hg20⟩)
          | (go_at_call 55; (with_reducible refine (mdeleted_any PB _ _ (hE.env.gr grOf) (hd3.gr grOf) p2 hsB.out.1 hsB.out.2).mono ?_); rw [HN.out.2.2.2.2.2.2.2]; rintro e w21 ⟨rfl, hg21⟩))
        all_goals go_ret
        all_goals exact ⟨by ((all_goals go_light); (all_goals (try simp_all [])); (all_goals (first | omega | rfl | (rw [Bool.eq_iff_iff]; simp; done) | (intros; omega) | (intros; simp_all; done) | (intros; simp_all; omega) | (split <;> simp_all; done) | (split <;> simp_all <;> omega)))), grOf⟩
      · have hcat := hcat rfl
        clear hX
        go_enter Tryz.func11, Tryz.ntmps11
        go_wp2_with (first
          | (go_at_call 15; (with_reducible refine (fixed11_any _ (hE.env.gr grOf)).mono ?_); rintro e w1 ⟨rfl, hg1⟩)
          | (go_at_call 16; (with_reducible refine (of11_yes la _ _ (hE.env.gr grOf) (RdOps.gr ha grOf) (by omega) (by omega) HA.out).mono ?_); rw [HP.out.1]; rintro e w2 ⟨v2, rfl, hd2, hg2⟩; obtain ⟨g2, hv2⟩ := hd2.ptr; subst hv2)
          | (go_at_call 16; (with_reducible refine (of11_yes lb _ _ (hE.env.gr grOf) (RdOps.gr hb grOf) (by omega) (by omega) HB.out).mono ?_); rw [HP.out.2]; rintro e w3 ⟨v3, rfl, hd3, hg3⟩; obtain ⟨g3, hv3⟩ := hd3.ptr; subst hv3)
          | (go_at_call 41; (with_reducible refine (empty_any _).mono ?_); rintro e w4 ⟨v4, rfl, hd4, hg4⟩; obtain ⟨g4, hv4⟩ := hd4.ptr; subst hv4)
          | (go_at_call 18; (with_reducible refine (ccompose_cmp PA [] _ _ _ (hE.env.gr grOf) (hd2.gr grOf) (hd4.gr grOf) SA.can can_nil HK2.out).mono ?_); rw [HZ.out.1]; rintro e w5 ⟨v5, rfl, hr5, hg5⟩; have hd5 := CmpR.ok hr5; rw [HZ.out.2.2.1] at hd5; obtain ⟨g5, hv5⟩ := hd5.ptr; subst hv5; clear hr5; rw [errOf_zero])
          | (go_at_call 18; (with_reducible refine (ccompose_cmp [] PA _ _ _ (hE.env.gr grOf) (hd4.gr grOf) (hd2.gr grOf) can_nil SA.can HK3.out).mono ?_); rw [HZ.out.2.1]; rintro e w6 ⟨v6, rfl, hr6, hg6⟩; have hd6 := CmpR.ok hr6; rw [HZ.out.2.2.2] at hd6; obtain ⟨g6, hv6⟩ := hd6.ptr; subst hv6; clear hr6; rw [errOf_zero])
          | (go_at_call 22; refine callsAt ?_; intro W hW; (have hB7 : Blk W w6.heap.size 24 #[.pointer (some ⟨g2, 0, none⟩)] := by (subst hW; exact Blk.new _ _ _)); (have hgW : Gr w6 W := by (subst hW; exact grOf)); clear hW; go_loud (with_reducible refine (call_any PA [] _ _ 1048576 0 (hE.env.gr grOf) (rd_dl1 (hd2.gr grOf) hB7) SA sz0 (by omega)).mono ?_); rintro e w7 ⟨v7, E7, rfl, hf7, hg7⟩; obtain ⟨D7, hD7, rfl, hd7⟩ | ⟨hD7, -⟩ := hf7; rotate_left; (exact absurd hD7 (by simp [foldC])); obtain rfl : PA = D7 := Option.some.inj hD7; obtain ⟨g7, hv7⟩ := hd7.ptr; subst hv7; rw [errOf_zero])
          | (go_at_call 21; (with_reducible refine (is11_any PA la _ _ _ (hd5.gr grOf) o2.good (RdOps.gr ha grOf)).mono ?_); rw [HO.out, decide_eq_true (rfl : la = la)]; rintro e w8 ⟨rfl, hg8⟩)
          | (go_at_call 21; (with_reducible refine (is11_any PA la _ _ _ (hd6.gr grOf) o2.good (RdOps.gr ha grOf)).mono ?_); rw [HO.out, decide_eq_true (rfl : la = la)]; rintro e w9 ⟨rfl, hg9⟩)
          | (go_at_call 21; (with_reducible refine (is11_any PA la _ _ _ (hd7.gr grOf) o2.good (RdOps.gr ha grOf)).mono ?_); rw [HO.out, decide_eq_true (rfl : la = la)]; rintro e w10 ⟨rfl, hg10⟩)
          | (go_at_call 18; (with_reducible refine (ccompose_cmp PA PB _ _ _ (hE.env.gr grOf) (hd2.gr grOf) (hd3.gr grOf) SA.can SB.can HK1.out).mono ?_); rw [H1.out.1]; rintro e w11 ⟨v11, rfl, hr11, hg11⟩; have hv11 := CmpR.no hr11; subst hv11; clear hr11)
          | (go_at_call 52; (with_reducible refine (base_any PA _ _ (hE.env.gr grOf) (hd2.gr grOf) o2 hsA.out.1 hsA.out.2).mono ?_); rw [HN.out.1]; rintro e w12 ⟨rfl, hg12⟩)
          | (go_at_call 52; (with_reducible refine (base_any PB _ _ (hE.env.gr grOf) (hd3.gr grOf) p2 hsB.out.1 hsB.out.2).mono ?_); rw [HN.out.2.2.2.2.1]; rintro e w13 ⟨rfl, hg13⟩)
          | (go_at_call 53; (with_reducible refine (result_any PA _ _ (hE.env.gr grOf) (hd2.gr grOf) o2 hsA.out.1 hsA.out.2).mono ?_); rw [HN.out.2.1]; rintro e w14 ⟨rfl, hg14⟩)
          | (go_at_call 29; (with_reducible refine (num_any 11 _ (hE.gr grOf) (by omega) (by omega)).mono ?_); rintro e w15 ⟨rfl, hg15⟩)
          | (go_at_call 53; (with_reducible refine (result_any PB _ _ (hE.env.gr grOf) (hd3.gr grOf) p2 hsB.out.1 hsB.out.2).mono ?_); rw [HN.out.2.2.2.2.2.1]; rintro e w16 ⟨rfl, hg16⟩))
        all_goals go_ret
        all_goals exact ⟨by ((all_goals go_light); (all_goals (try simp_all [])); (all_goals (first | omega | rfl | (rw [Bool.eq_iff_iff]; simp; done) | (intros; omega) | (intros; simp_all; done) | (intros; simp_all; omega) | (split <;> simp_all; done) | (split <;> simp_all <;> omega)))), grOf⟩

end Ve
