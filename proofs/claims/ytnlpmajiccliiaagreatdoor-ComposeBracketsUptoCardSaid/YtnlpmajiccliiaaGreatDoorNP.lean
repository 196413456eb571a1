/- The law ComposeBrackets. -/
import Derived.Test.YtnlpmajiccliiaaGreatDoorGR
import Derived.Test.YtnlpmajiccliiaaGreatDoorNM
set_option linter.all false
namespace Ve
open Go Go.RowKit Go.Proofs


set_option maxRecDepth 20000 in
set_option maxHeartbeats 8000000 in
theorem composeBrackets_law {ea : Nat → Addr} (la : List Op) (va : Value) (lb : List Op) (vb : Value) (lc : List Op) (vc : Value) (w : World) (hE : Env ea w) (ha : RdOps w va la) (hsa : opsum la + atsum la + la.length ≤ 1048576) (hb : RdOps w vb lb) (hsb : opsum lb + atsum lb + lb.length ≤ 1048576) (hc : RdOps w vc lc) (hsc : opsum lc + atsum lc + lc.length ≤ 1048576)
    (hs : opsum la + atsum la + la.length + (opsum lb + atsum lb + lb.length) + (opsum lc + atsum lc + lc.length) ≤ 1048576) :
    Calls Tryz.prog 5 #[va, vb, vc] w fun e w' => e = .returned (.bool true) ∧ Gr w w' := by
  obtain ⟨a1, n1, c1, rfl, -, -, -, -⟩ := ha.sl
  obtain ⟨a2, n2, c2, rfl, -, -, -, -⟩ := hb.sl
  obtain ⟨a3, n3, c3, rfl, -, -, -, -⟩ := hc.sl
  cases hca : canonL la with
  | false =>
    have HA := Lib.hid hca; clear hca
    go_enter Tryz.func5, Tryz.ntmps5
    go_wp2_with (first
          | (go_at_call 15; (with_reducible refine (fixed11_any _ (hE.gr grOf)).mono ?_); rintro e w1 ⟨rfl, hg1⟩)
          | (go_at_call 16; (with_reducible refine (of11_no la _ _ (hE.gr grOf) (RdOps.gr ha grOf) HA.out).mono ?_); rintro e w2 ⟨rfl, hg2⟩)
          | (go_at_call 16; (with_reducible refine (of11_some lb _ _ (hE.gr grOf) (RdOps.gr hb grOf) (by omega) (by omega)).mono ?_); rintro e w3 ⟨v3, rfl, hg3⟩)
          | (go_at_call 16; (with_reducible refine (of11_some lc _ _ (hE.gr grOf) (RdOps.gr hc grOf) (by omega) (by omega)).mono ?_); rintro e w4 ⟨v4, rfl, hg4⟩))
    go_ret
    exact ⟨rfl, grOf⟩
  | true =>
    cases hcb : canonL lb with
    | false =>
      have HA := Lib.hid hca; clear hca
      have HB := Lib.hid hcb; clear hcb
      go_enter Tryz.func5, Tryz.ntmps5
      go_wp2_with (first
            | (go_at_call 15; (with_reducible refine (fixed11_any _ (hE.gr grOf)).mono ?_); rintro e w1 ⟨rfl, hg1⟩)
            | (go_at_call 16; (with_reducible refine (of11_yes la _ _ (hE.gr grOf) (RdOps.gr ha grOf) (by omega) (by omega) HA.out).mono ?_); rintro e w2 ⟨v2, rfl, hd2, hg2⟩; obtain ⟨g2, sl2, hv2, hbr2⟩ := hd2; subst hv2; clear hbr2)
            | (go_at_call 16; (with_reducible refine (of11_no lb _ _ (hE.gr grOf) (RdOps.gr hb grOf) HB.out).mono ?_); rintro e w3 ⟨rfl, hg3⟩)
            | (go_at_call 16; (with_reducible refine (of11_some lc _ _ (hE.gr grOf) (RdOps.gr hc grOf) (by omega) (by omega)).mono ?_); rintro e w4 ⟨v4, rfl, hg4⟩))
      go_ret
      exact ⟨rfl, grOf⟩
    | true =>
      cases hcc : canonL lc with
      | false =>
        have HA := Lib.hid hca; clear hca
        have HB := Lib.hid hcb; clear hcb
        have HC := Lib.hid hcc; clear hcc
        go_enter Tryz.func5, Tryz.ntmps5
        go_wp2_with (first
              | (go_at_call 15; (with_reducible refine (fixed11_any _ (hE.gr grOf)).mono ?_); rintro e w1 ⟨rfl, hg1⟩)
              | (go_at_call 16; (with_reducible refine (of11_yes la _ _ (hE.gr grOf) (RdOps.gr ha grOf) (by omega) (by omega) HA.out).mono ?_); rintro e w2 ⟨v2, rfl, hd2, hg2⟩; obtain ⟨g2, sl2, hv2, hbr2⟩ := hd2; subst hv2; clear hbr2)
              | (go_at_call 16; (with_reducible refine (of11_yes lb _ _ (hE.gr grOf) (RdOps.gr hb grOf) (by omega) (by omega) HB.out).mono ?_); rintro e w3 ⟨v3, rfl, hd3, hg3⟩; obtain ⟨g3, sl3, hv3, hbr3⟩ := hd3; subst hv3; clear hbr3)
              | (go_at_call 16; (with_reducible refine (of11_no lc _ _ (hE.gr grOf) (RdOps.gr hc grOf) HC.out).mono ?_); rintro e w4 ⟨rfl, hg4⟩))
        go_ret
        exact ⟨rfl, grOf⟩
      | true =>
        obtain ⟨na, hna⟩ : ∃ n, opsum la + atsum la + la.length = n := ⟨_, rfl⟩
        obtain ⟨nb, hnb⟩ : ∃ n, opsum lb + atsum lb + lb.length = n := ⟨_, rfl⟩
        obtain ⟨nc, hnc⟩ : ∃ n, opsum lc + atsum lc + lc.length = n := ⟨_, rfl⟩
        have SA := Szd.of hca (Nat.le_of_eq hna)
        have SB := Szd.of hcb (Nat.le_of_eq hnb)
        have SC := Szd.of hcc (Nat.le_of_eq hnc)
        rw [hna, hnb, hnc] at hs
        have HA := Lib.hid hca; clear hca
        have HB := Lib.hid hcb; clear hcb
        have HC := Lib.hid hcc; clear hcc
        obtain ⟨PA, hPA⟩ : ∃ PA, la.map toPiece = PA := ⟨_, rfl⟩
        obtain ⟨PB, hPB⟩ : ∃ PB, lb.map toPiece = PB := ⟨_, rfl⟩
        obtain ⟨PC, hPC⟩ : ∃ PC, lc.map toPiece = PC := ⟨_, rfl⟩
        rw [hPA] at SA; rw [hPB] at SB; rw [hPC] at SC
        have HP := Lib.hid (And.intro hPA (And.intro hPB hPC)); clear hPA hPB hPC
        have szl : SzL (nb + nc) [PB, PC] := ⟨nb, nc, SB, ⟨nc, 0, SC, trivial, Nat.le_refl _⟩, Nat.le_refl _⟩
        have K1 := Lib.hid (SA.pre SB (by omega) (by omega))
        have K2 := Lib.hid (SB.pre SC (by omega) (by omega))
        have hX1 := fun h => comp_cmp SA.can SB.can K1.out.1 K1.out.2.1 h
        have hX2 := fun h => comp_cmp SB.can SC.can K2.out.1 K2.out.2.1 h
        obtain ⟨E1, hE1⟩ : ∃ E, catE (compL PA PB) = E := ⟨_, rfl⟩
        obtain ⟨E2, hE2⟩ : ∃ E, catE (compL PB PC) = E := ⟨_, rfl⟩
        obtain ⟨AB, hAB⟩ : ∃ x, (putAll .new (compL PA PB)).delta = x := ⟨_, rfl⟩
        obtain ⟨BC, hBC⟩ : ∃ x, (putAll .new (compL PB PC)).delta = x := ⟨_, rfl⟩
        have e1 := catE_or (compL PA PB)
        have e2 := catE_or (compL PB PC)
        rw [hE1] at hX1 e1; rw [hE2] at hX2 e2; rw [hAB] at hX1; rw [hBC] at hX2
        have H1 := Lib.hid (And.intro hE1 hAB); clear hE1 hAB
        have H2 := Lib.hid (And.intro hE2 hBC); clear hE2 hBC
        rcases e1 with rfl | rfl
        · have hX1 := hX1 rfl
          have SAB := hX1.szd SA SB
          rcases e2 with rfl | rfl
          · have hX2 := hX2 rfl
            have SBC := hX2.szd SB SC
            have K3 := Lib.hid (SAB.pre SC (by omega) (by omega))
            have K4 := Lib.hid (SA.pre SBC (by omega) (by omega))
            have hX3 := fun h => comp_cmp SAB.can SC.can K3.out.1 K3.out.2.1 h
            have hX4 := fun h => comp_cmp SA.can SBC.can K4.out.1 K4.out.2.1 h
            obtain ⟨E3, hE3⟩ : ∃ E, catE (compL AB PC) = E := ⟨_, rfl⟩
            obtain ⟨E4, hE4⟩ : ∃ E, catE (compL PA BC) = E := ⟨_, rfl⟩
            obtain ⟨L, hL⟩ : ∃ x, (putAll .new (compL AB PC)).delta = x := ⟨_, rfl⟩
            obtain ⟨R, hR⟩ : ∃ x, (putAll .new (compL PA BC)).delta = x := ⟨_, rfl⟩
            have e3 := catE_or (compL AB PC)
            have e4 := catE_or (compL PA BC)
            rw [hE3] at hX3 e3; rw [hE4] at hX4 e4; rw [hL] at hX3; rw [hR] at hX4
            rcases e3 with rfl | rfl
            · rcases e4 with rfl | rfl
              · have hX3 := hX3 rfl
                have hX4 := hX4 rfl
                have SL := hX3.szd SAB SC
                obtain rfl : L = R := cmp_assoc hX1 hX2 hX3 hX4 SA.can.ok SB.can.ok
                have HF := Lib.hid (show foldC PA [PB, PC] = some L by simp only [foldC]; rw [if_pos H1.out.1, H1.out.2, if_pos hE3, hL])
                have hLl := Lib.hid (show (L.map Piece.op).length ≤ 1099511627776 by obtain ⟨T, K, -, -, h⟩ := SL.sz; rw [List.length_map]; omega)
                have H3 := Lib.hid (And.intro hE3 hL); clear hE3 hL
                have H4 := Lib.hid (And.intro hE4 hR); clear hE4 hR
                clear hX1 hX2 hX3 hX4
                go_enter Tryz.func5, Tryz.ntmps5
                go_wp2_with (first
                  | (go_at_call 15; (with_reducible refine (fixed11_any _ (hE.gr grOf)).mono ?_); rintro e w1 ⟨rfl, hg1⟩)
                  | (go_at_call 16; (with_reducible refine (of11_yes la _ _ (hE.gr grOf) (RdOps.gr ha grOf) (by omega) (by omega) HA.out).mono ?_); rw [HP.out.1]; rintro e w2 ⟨v2, rfl, hd2, hg2⟩; obtain ⟨g2, hv2⟩ := hd2.ptr; subst hv2)
                  | (go_at_call 16; (with_reducible refine (of11_yes lb _ _ (hE.gr grOf) (RdOps.gr hb grOf) (by omega) (by omega) HB.out).mono ?_); rw [HP.out.2.1]; rintro e w3 ⟨v3, rfl, hd3, hg3⟩; obtain ⟨g3, hv3⟩ := hd3.ptr; subst hv3)
                  | (go_at_call 16; (with_reducible refine (of11_yes lc _ _ (hE.gr grOf) (RdOps.gr hc grOf) (by omega) (by omega) HC.out).mono ?_); rw [HP.out.2.2]; rintro e w4 ⟨v4, rfl, hd4, hg4⟩; obtain ⟨g4, hv4⟩ := hd4.ptr; subst hv4)
                  | (go_at_call 18; (with_reducible refine (ccompose_cmp PA PB _ _ _ (hE.gr grOf) (hd2.gr grOf) (hd3.gr grOf) SA.can SB.can K1.out).mono ?_); rw [H1.out.1]; rintro e w5 ⟨v5, rfl, hr5, hg5⟩; have hd5 := CmpR.ok hr5; rw [H1.out.2] at hd5; obtain ⟨g5, hv5⟩ := hd5.ptr; subst hv5; clear hr5; rw [errOf_zero])
                  | (go_at_call 18; (with_reducible refine (ccompose_cmp PB PC _ _ _ (hE.gr grOf) (hd3.gr grOf) (hd4.gr grOf) SB.can SC.can K2.out).mono ?_); rw [H2.out.1]; rintro e w6 ⟨v6, rfl, hr6, hg6⟩; have hd6 := CmpR.ok hr6; rw [H2.out.2] at hd6; obtain ⟨g6, hv6⟩ := hd6.ptr; subst hv6; clear hr6; rw [errOf_zero])
                  | (go_at_call 18; (with_reducible refine (ccompose_cmp AB PC _ _ _ (hE.gr grOf) (hd5.gr grOf) (hd4.gr grOf) SAB.can SC.can K3.out).mono ?_); rw [H3.out.1]; rintro e w7 ⟨v7, rfl, hr7, hg7⟩; have hd7 := CmpR.ok hr7; rw [H3.out.2] at hd7; obtain ⟨g7, hv7⟩ := hd7.ptr; subst hv7; clear hr7; rw [errOf_zero])
                  | (go_at_call 18; (with_reducible refine (ccompose_cmp PA BC _ _ _ (hE.gr grOf) (hd2.gr grOf) (hd6.gr grOf) SA.can SBC.can K4.out).mono ?_); rw [H4.out.1]; rintro e w8 ⟨v8, rfl, hr8, hg8⟩; have hd8 := CmpR.ok hr8; rw [H4.out.2] at hd8; obtain ⟨g8, hv8⟩ := hd8.ptr; subst hv8; clear hr8; rw [errOf_zero])
                  | (go_at_call 24; (with_reducible refine (dops_any L _ _ (hd8.gr grOf) SL.can.ok.good).mono ?_); rintro e w9 ⟨v9, rfl, ho9, hg9⟩; have hR9 := OwnOps.rd ho9 hLl.out; obtain ⟨a9, n9, c9, rfl, -⟩ := ho9.sl)
                  | (go_at_call 21; (with_reducible refine (is11_any L (L.map Piece.op) _ _ _ (hd7.gr grOf) SL.can.ok.good (RdOps.gr hR9 grOf)).mono ?_); rw [decide_eq_true (rfl : L.map Piece.op = L.map Piece.op)]; rintro e w10 ⟨rfl, hg10⟩)
                  | (go_at_call 22; refine callsAt ?_; intro W hW; (have hB7 : Blk W w8.heap.size 24 #[.pointer (some ⟨g2, 0, none⟩), .pointer (some ⟨g3, 0, none⟩), .pointer (some ⟨g4, 0, none⟩)] := by (subst hW; exact Blk.new _ _ _)); (have hgW : Gr w8 W := by (subst hW; exact grOf)); clear hW; go_loud (with_reducible refine (call_any PA [PB, PC] _ _ na (nb + nc) (hE.gr grOf) (rd_dl3 (hd2.gr grOf) (hd3.gr grOf) (hd4.gr grOf) hB7) SA szl (by omega)).mono ?_); rw [HF.out]; rintro e w11 ⟨v11, E11, rfl, hf11, hg11⟩; obtain ⟨D11, hD11, rfl, hd11⟩ | ⟨hD11, -⟩ := hf11; rotate_left; (exact absurd hD11 (by simp)); obtain rfl := Option.some.inj hD11; obtain ⟨g11, hv11⟩ := hd11.ptr; subst hv11; rw [errOf_zero])
                  | (go_at_call 24; (with_reducible refine (dops_any L _ _ (hd7.gr grOf) SL.can.ok.good).mono ?_); rintro e w12 ⟨v12, rfl, ho12, hg12⟩; have hR12 := OwnOps.rd ho12 hLl.out; obtain ⟨a12, n12, c12, rfl, -⟩ := ho12.sl)
                  | (go_at_call 21; (with_reducible refine (is11_any L (L.map Piece.op) _ _ _ (hd11.gr grOf) SL.can.ok.good (RdOps.gr hR12 grOf)).mono ?_); rw [decide_eq_true (rfl : L.map Piece.op = L.map Piece.op)]; rintro e w13 ⟨rfl, hg13⟩))
                all_goals go_ret
                all_goals exact ⟨rfl, grOf⟩
              · have H3 := Lib.hid (And.intro hE3 hL); clear hE3 hL
                have H4 := Lib.hid (And.intro hE4 hR); clear hE4 hR
                clear hX1 hX2 hX3 hX4
                go_enter Tryz.func5, Tryz.ntmps5
                go_wp2_with (first
                  | (go_at_call 15; (with_reducible refine (fixed11_any _ (hE.gr grOf)).mono ?_); rintro e w1 ⟨rfl, hg1⟩)
                  | (go_at_call 16; (with_reducible refine (of11_yes la _ _ (hE.gr grOf) (RdOps.gr ha grOf) (by omega) (by omega) HA.out).mono ?_); rw [HP.out.1]; rintro e w2 ⟨v2, rfl, hd2, hg2⟩; obtain ⟨g2, hv2⟩ := hd2.ptr; subst hv2)
                  | (go_at_call 16; (with_reducible refine (of11_yes lb _ _ (hE.gr grOf) (RdOps.gr hb grOf) (by omega) (by omega) HB.out).mono ?_); rw [HP.out.2.1]; rintro e w3 ⟨v3, rfl, hd3, hg3⟩; obtain ⟨g3, hv3⟩ := hd3.ptr; subst hv3)
                  | (go_at_call 16; (with_reducible refine (of11_yes lc _ _ (hE.gr grOf) (RdOps.gr hc grOf) (by omega) (by omega) HC.out).mono ?_); rw [HP.out.2.2]; rintro e w4 ⟨v4, rfl, hd4, hg4⟩; obtain ⟨g4, hv4⟩ := hd4.ptr; subst hv4)
                  | (go_at_call 18; (with_reducible refine (ccompose_cmp PA PB _ _ _ (hE.gr grOf) (hd2.gr grOf) (hd3.gr grOf) SA.can SB.can K1.out).mono ?_); rw [H1.out.1]; rintro e w5 ⟨v5, rfl, hr5, hg5⟩; have hd5 := CmpR.ok hr5; rw [H1.out.2] at hd5; obtain ⟨g5, hv5⟩ := hd5.ptr; subst hv5; clear hr5; rw [errOf_zero])
                  | (go_at_call 18; (with_reducible refine (ccompose_cmp PB PC _ _ _ (hE.gr grOf) (hd3.gr grOf) (hd4.gr grOf) SB.can SC.can K2.out).mono ?_); rw [H2.out.1]; rintro e w6 ⟨v6, rfl, hr6, hg6⟩; have hd6 := CmpR.ok hr6; rw [H2.out.2] at hd6; obtain ⟨g6, hv6⟩ := hd6.ptr; subst hv6; clear hr6; rw [errOf_zero])
                  | (go_at_call 18; (with_reducible refine (ccompose_cmp AB PC _ _ _ (hE.gr grOf) (hd5.gr grOf) (hd4.gr grOf) SAB.can SC.can K3.out).mono ?_); rw [H3.out.1]; rintro e w7 ⟨v7, rfl, hr7, hg7⟩; have hd7 := CmpR.ok hr7; rw [H3.out.2] at hd7; obtain ⟨g7, hv7⟩ := hd7.ptr; subst hv7; clear hr7; rw [errOf_zero])
                  | (go_at_call 18; (with_reducible refine (ccompose_cmp PA BC _ _ _ (hE.gr grOf) (hd2.gr grOf) (hd6.gr grOf) SA.can SBC.can K4.out).mono ?_); rw [H4.out.1]; rintro e w8 ⟨v8, rfl, hr8, hg8⟩; have hv8 := CmpR.no hr8; subst hv8; clear hr8))
                all_goals go_ret
                all_goals exact ⟨rfl, grOf⟩
            · have H3 := Lib.hid (And.intro hE3 hL); clear hE3 hL
              have H4 := Lib.hid (And.intro hE4 hR); clear hE4 hR
              clear hX1 hX2 hX3 hX4
              rcases e4 with rfl | rfl
              · skip
                go_enter Tryz.func5, Tryz.ntmps5
                go_wp2_with (first
                  | (go_at_call 15; (with_reducible refine (fixed11_any _ (hE.gr grOf)).mono ?_); rintro e w1 ⟨rfl, hg1⟩)
                  | (go_at_call 16; (with_reducible refine (of11_yes la _ _ (hE.gr grOf) (RdOps.gr ha grOf) (by omega) (by omega) HA.out).mono ?_); rw [HP.out.1]; rintro e w2 ⟨v2, rfl, hd2, hg2⟩; obtain ⟨g2, hv2⟩ := hd2.ptr; subst hv2)
                  | (go_at_call 16; (with_reducible refine (of11_yes lb _ _ (hE.gr grOf) (RdOps.gr hb grOf) (by omega) (by omega) HB.out).mono ?_); rw [HP.out.2.1]; rintro e w3 ⟨v3, rfl, hd3, hg3⟩; obtain ⟨g3, hv3⟩ := hd3.ptr; subst hv3)
                  | (go_at_call 16; (with_reducible refine (of11_yes lc _ _ (hE.gr grOf) (RdOps.gr hc grOf) (by omega) (by omega) HC.out).mono ?_); rw [HP.out.2.2]; rintro e w4 ⟨v4, rfl, hd4, hg4⟩; obtain ⟨g4, hv4⟩ := hd4.ptr; subst hv4)
                  | (go_at_call 18; (with_reducible refine (ccompose_cmp PA PB _ _ _ (hE.gr grOf) (hd2.gr grOf) (hd3.gr grOf) SA.can SB.can K1.out).mono ?_); rw [H1.out.1]; rintro e w5 ⟨v5, rfl, hr5, hg5⟩; have hd5 := CmpR.ok hr5; rw [H1.out.2] at hd5; obtain ⟨g5, hv5⟩ := hd5.ptr; subst hv5; clear hr5; rw [errOf_zero])
                  | (go_at_call 18; (with_reducible refine (ccompose_cmp PB PC _ _ _ (hE.gr grOf) (hd3.gr grOf) (hd4.gr grOf) SB.can SC.can K2.out).mono ?_); rw [H2.out.1]; rintro e w6 ⟨v6, rfl, hr6, hg6⟩; have hd6 := CmpR.ok hr6; rw [H2.out.2] at hd6; obtain ⟨g6, hv6⟩ := hd6.ptr; subst hv6; clear hr6; rw [errOf_zero])
                  | (go_at_call 18; (with_reducible refine (ccompose_cmp AB PC _ _ _ (hE.gr grOf) (hd5.gr grOf) (hd4.gr grOf) SAB.can SC.can K3.out).mono ?_); rw [H3.out.1]; rintro e w7 ⟨v7, rfl, hr7, hg7⟩; have hv7 := CmpR.no hr7; subst hv7; clear hr7)
                  | (go_at_call 18; (with_reducible refine (ccompose_cmp PA BC _ _ _ (hE.gr grOf) (hd2.gr grOf) (hd6.gr grOf) SA.can SBC.can K4.out).mono ?_); rw [H4.out.1]; rintro e w8 ⟨v8, rfl, hr8, hg8⟩; have hd8 := CmpR.ok hr8; rw [H4.out.2] at hd8; obtain ⟨g8, hv8⟩ := hd8.ptr; subst hv8; clear hr8; rw [errOf_zero]))
                all_goals go_ret
                all_goals exact ⟨rfl, grOf⟩
              · skip
                go_enter Tryz.func5, Tryz.ntmps5
                go_wp2_with (first
                  | (go_at_call 15; (with_reducible refine (fixed11_any _ (hE.gr grOf)).mono ?_); rintro e w1 ⟨rfl, hg1⟩)
                  | (go_at_call 16; (with_reducible refine (of11_yes la _ _ (hE.gr grOf) (RdOps.gr ha grOf) (by omega) (by omega) HA.out).mono ?_); rw [HP.out.1]; rintro e w2 ⟨v2, rfl, hd2, hg2⟩; obtain ⟨g2, hv2⟩ := hd2.ptr; subst hv2)
                  | (go_at_call 16; (with_reducible refine (of11_yes lb _ _ (hE.gr grOf) (RdOps.gr hb grOf) (by omega) (by omega) HB.out).mono ?_); rw [HP.out.2.1]; rintro e w3 ⟨v3, rfl, hd3, hg3⟩; obtain ⟨g3, hv3⟩ := hd3.ptr; subst hv3)
                  | (go_at_call 16; (with_reducible refine (of11_yes lc _ _ (hE.gr grOf) (RdOps.gr hc grOf) (by omega) (by omega) HC.out).mono ?_); rw [HP.out.2.2]; rintro e w4 ⟨v4, rfl, hd4, hg4⟩; obtain ⟨g4, hv4⟩ := hd4.ptr; subst hv4)
                  | (go_at_call 18; (with_reducible refine (ccompose_cmp PA PB _ _ _ (hE.gr grOf) (hd2.gr grOf) (hd3.gr grOf) SA.can SB.can K1.out).mono ?_); rw [H1.out.1]; rintro e w5 ⟨v5, rfl, hr5, hg5⟩; have hd5 := CmpR.ok hr5; rw [H1.out.2] at hd5; obtain ⟨g5, hv5⟩ := hd5.ptr; subst hv5; clear hr5; rw [errOf_zero])
                  | (go_at_call 18; (with_reducible refine (ccompose_cmp PB PC _ _ _ (hE.gr grOf) (hd3.gr grOf) (hd4.gr grOf) SB.can SC.can K2.out).mono ?_); rw [H2.out.1]; rintro e w6 ⟨v6, rfl, hr6, hg6⟩; have hd6 := CmpR.ok hr6; rw [H2.out.2] at hd6; obtain ⟨g6, hv6⟩ := hd6.ptr; subst hv6; clear hr6; rw [errOf_zero])
                  | (go_at_call 18; (with_reducible refine (ccompose_cmp AB PC _ _ _ (hE.gr grOf) (hd5.gr grOf) (hd4.gr grOf) SAB.can SC.can K3.out).mono ?_); rw [H3.out.1]; rintro e w7 ⟨v7, rfl, hr7, hg7⟩; have hv7 := CmpR.no hr7; subst hv7; clear hr7)
                  | (go_at_call 18; (with_reducible refine (ccompose_cmp PA BC _ _ _ (hE.gr grOf) (hd2.gr grOf) (hd6.gr grOf) SA.can SBC.can K4.out).mono ?_); rw [H4.out.1]; rintro e w8 ⟨v8, rfl, hr8, hg8⟩; have hv8 := CmpR.no hr8; subst hv8; clear hr8))
                all_goals go_ret
                all_goals exact ⟨rfl, grOf⟩
          · clear hX1 hX2
            go_enter Tryz.func5, Tryz.ntmps5
            go_wp2_with (first
              | (go_at_call 15; (with_reducible refine (fixed11_any _ (hE.gr grOf)).mono ?_); rintro e w1 ⟨rfl, hg1⟩)
              | (go_at_call 16; (with_reducible refine (of11_yes la _ _ (hE.gr grOf) (RdOps.gr ha grOf) (by omega) (by omega) HA.out).mono ?_); rw [HP.out.1]; rintro e w2 ⟨v2, rfl, hd2, hg2⟩; obtain ⟨g2, hv2⟩ := hd2.ptr; subst hv2)
              | (go_at_call 16; (with_reducible refine (of11_yes lb _ _ (hE.gr grOf) (RdOps.gr hb grOf) (by omega) (by omega) HB.out).mono ?_); rw [HP.out.2.1]; rintro e w3 ⟨v3, rfl, hd3, hg3⟩; obtain ⟨g3, hv3⟩ := hd3.ptr; subst hv3)
              | (go_at_call 16; (with_reducible refine (of11_yes lc _ _ (hE.gr grOf) (RdOps.gr hc grOf) (by omega) (by omega) HC.out).mono ?_); rw [HP.out.2.2]; rintro e w4 ⟨v4, rfl, hd4, hg4⟩; obtain ⟨g4, hv4⟩ := hd4.ptr; subst hv4)
              | (go_at_call 18; (with_reducible refine (ccompose_cmp PA PB _ _ _ (hE.gr grOf) (hd2.gr grOf) (hd3.gr grOf) SA.can SB.can K1.out).mono ?_); rw [H1.out.1]; rintro e w5 ⟨v5, rfl, hr5, hg5⟩; have hd5 := CmpR.ok hr5; rw [H1.out.2] at hd5; obtain ⟨g5, hv5⟩ := hd5.ptr; subst hv5; clear hr5; rw [errOf_zero])
              | (go_at_call 18; (with_reducible refine (ccompose_cmp PB PC _ _ _ (hE.gr grOf) (hd3.gr grOf) (hd4.gr grOf) SB.can SC.can K2.out).mono ?_); rw [H2.out.1]; rintro e w6 ⟨v6, rfl, hr6, hg6⟩; have hv6 := CmpR.no hr6; subst hv6; clear hr6))
            all_goals go_ret
            all_goals exact ⟨rfl, grOf⟩
        · clear hX1 hX2
          rcases e2 with rfl | rfl
          · skip
            go_enter Tryz.func5, Tryz.ntmps5
            go_wp2_with (first
              | (go_at_call 15; (with_reducible refine (fixed11_any _ (hE.gr grOf)).mono ?_); rintro e w1 ⟨rfl, hg1⟩)
              | (go_at_call 16; (with_reducible refine (of11_yes la _ _ (hE.gr grOf) (RdOps.gr ha grOf) (by omega) (by omega) HA.out).mono ?_); rw [HP.out.1]; rintro e w2 ⟨v2, rfl, hd2, hg2⟩; obtain ⟨g2, hv2⟩ := hd2.ptr; subst hv2)
              | (go_at_call 16; (with_reducible refine (of11_yes lb _ _ (hE.gr grOf) (RdOps.gr hb grOf) (by omega) (by omega) HB.out).mono ?_); rw [HP.out.2.1]; rintro e w3 ⟨v3, rfl, hd3, hg3⟩; obtain ⟨g3, hv3⟩ := hd3.ptr; subst hv3)
              | (go_at_call 16; (with_reducible refine (of11_yes lc _ _ (hE.gr grOf) (RdOps.gr hc grOf) (by omega) (by omega) HC.out).mono ?_); rw [HP.out.2.2]; rintro e w4 ⟨v4, rfl, hd4, hg4⟩; obtain ⟨g4, hv4⟩ := hd4.ptr; subst hv4)
              | (go_at_call 18; (with_reducible refine (ccompose_cmp PA PB _ _ _ (hE.gr grOf) (hd2.gr grOf) (hd3.gr grOf) SA.can SB.can K1.out).mono ?_); rw [H1.out.1]; rintro e w5 ⟨v5, rfl, hr5, hg5⟩; have hv5 := CmpR.no hr5; subst hv5; clear hr5)
              | (go_at_call 18; (with_reducible refine (ccompose_cmp PB PC _ _ _ (hE.gr grOf) (hd3.gr grOf) (hd4.gr grOf) SB.can SC.can K2.out).mono ?_); rw [H2.out.1]; rintro e w6 ⟨v6, rfl, hr6, hg6⟩; have hd6 := CmpR.ok hr6; rw [H2.out.2] at hd6; obtain ⟨g6, hv6⟩ := hd6.ptr; subst hv6; clear hr6; rw [errOf_zero]))
            all_goals go_ret
            all_goals exact ⟨rfl, grOf⟩
          · skip
            go_enter Tryz.func5, Tryz.ntmps5
            go_wp2_with (first
              | (go_at_call 15; (with_reducible refine (fixed11_any _ (hE.gr grOf)).mono ?_); rintro e w1 ⟨rfl, hg1⟩)
              | (go_at_call 16; (with_reducible refine (of11_yes la _ _ (hE.gr grOf) (RdOps.gr ha grOf) (by omega) (by omega) HA.out).mono ?_); rw [HP.out.1]; rintro e w2 ⟨v2, rfl, hd2, hg2⟩; obtain ⟨g2, hv2⟩ := hd2.ptr; subst hv2)
              | (go_at_call 16; (with_reducible refine (of11_yes lb _ _ (hE.gr grOf) (RdOps.gr hb grOf) (by omega) (by omega) HB.out).mono ?_); rw [HP.out.2.1]; rintro e w3 ⟨v3, rfl, hd3, hg3⟩; obtain ⟨g3, hv3⟩ := hd3.ptr; subst hv3)
              | (go_at_call 16; (with_reducible refine (of11_yes lc _ _ (hE.gr grOf) (RdOps.gr hc grOf) (by omega) (by omega) HC.out).mono ?_); rw [HP.out.2.2]; rintro e w4 ⟨v4, rfl, hd4, hg4⟩; obtain ⟨g4, hv4⟩ := hd4.ptr; subst hv4)
              | (go_at_call 18; (with_reducible refine (ccompose_cmp PA PB _ _ _ (hE.gr grOf) (hd2.gr grOf) (hd3.gr grOf) SA.can SB.can K1.out).mono ?_); rw [H1.out.1]; rintro e w5 ⟨v5, rfl, hr5, hg5⟩; have hv5 := CmpR.no hr5; subst hv5; clear hr5)
              | (go_at_call 18; (with_reducible refine (ccompose_cmp PB PC _ _ _ (hE.gr grOf) (hd3.gr grOf) (hd4.gr grOf) SB.can SC.can K2.out).mono ?_); rw [H2.out.1]; rintro e w6 ⟨v6, rfl, hr6, hg6⟩; have hv6 := CmpR.no hr6; subst hv6; clear hr6))
            all_goals go_ret
            all_goals exact ⟨rfl, grOf⟩

end Ve
