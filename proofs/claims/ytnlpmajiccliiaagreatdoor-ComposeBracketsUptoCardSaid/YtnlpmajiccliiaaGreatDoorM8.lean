/- Walks: the references of layers 6 and 8: Lengths, Long; Base, Result, Inserted, Deleted, Document. -/
import Derived.Test.YtnlpmajiccliiaaGreatDoorR9
set_option linter.all false
namespace Ve
open Go Go.RowKit Go.Proofs

/-- ref06.Lengths, operation by operation. -/
def stB (b : Int) (o : Op) : Int := if b < 0 ∨ o.kind = 1 ∨ o.kind = 2 then b else if 1099511627776 < b + len06 o then -1 else b + len06 o
def stR (r : Int) (o : Op) : Int := if r < 0 ∨ o.kind = 4 then r else if 1099511627776 < r + len06 o then -1 else r + len06 o

set_option maxRecDepth 20000 in
set_option maxHeartbeats 4000000 in
theorem lens06_any (l : List Op) (v : Value) (w : World) (hl : RdOps w v l) (hok : ∀ o ∈ l, (o.kind = 1 ∨ o.kind = 2 ∨ o.kind = 3 ∨ o.kind = 4) ∧ 0 ≤ len06 o) :
    Calls Tryz.prog 155 #[v] w fun e w' => e = .returned (.tuple #[.int .i64 (l.foldl stB 0), .int .i64 (l.foldl stR 0)]) ∧ Gr w w' := by
  obtain ⟨a, n, cap, rfl, hcap, hm, hb, hn⟩ := hl.sl
  go_enter Tryz.func155, Tryz.ntmps155
  go_wp2
  go_loopw [4, 5, 11] (fun x y i wr => ∃ (k : Nat) (b r : Int), k ≤ n ∧ i = .int .i64 k ∧ x = .int .i64 b ∧ y = .int .i64 r ∧ -1 ≤ b ∧ b ≤ 1099511627776 ∧ -1 ≤ r ∧ r ≤ 1099511627776 ∧ Gr w wr ∧ (l.drop k).foldl stB b = l.foldl stB 0 ∧ (l.drop k).foldl stR r = l.foldl stR 0) (fun _ _ i _ => n - (intOf i).toNat)
  case atStart => exact ⟨0, 0, 0, Nat.zero_le _, rfl, rfl, rfl, by omega, by omega, by omega, by omega, Gr.refl _, rfl, rfl⟩
  case round =>
    obtain ⟨k, b, r, hk, rfl, rfl, rfl, hb0, hb1, hr0, hr1, hg, ht1, ht2⟩ := hrel
    have Ht := Lib.hid (And.intro ht1 ht2); clear ht1 ht2
    by_cases hlt : k < n
    · obtain ⟨blk, off, xk, xt, xa, xb, xv, xc, ats, sl, hx, rfl, hr, c0, c1, c2, c3, c4, c5, c6, s1, s2⟩ := (RdOps.gr hl hg).at_ k hlt
      obtain ⟨hkind, N0⟩ := hok _ (List.mem_of_getElem? hx)
      dsimp only at hkind
      have Hx := Lib.hid hx; clear hx
      have hlt' : (k : Int) < n := by omega
      obtain ⟨L, hL⟩ : ∃ L, len06 ⟨xk, xt, ⟨xa, xb, xv⟩, xc, ats⟩ = L := ⟨_, rfl⟩
      rw [hL] at N0
      have HL := Lib.hid hL; clear hL
      obtain ⟨sa, sc, hsl, -⟩ := RdList.slice hr
      subst hsl
      by_cases n1 : 1099511627776 < L
      · by_cases hbn : b < 0
        · obtain rfl : b = -1 := by omega
          by_cases hrn : r < 0
          · obtain rfl : r = -1 := by omega
            rcases hkind with rfl | rfl | rfl | rfl
            all_goals (go_wp2_with (first
                                   | (go_at_call 133; refine (len06_any _ _ _ _ _ _ _ _ _ (RdAttrs.gr hr (by repeat (with_reducible first | assumption | exact Gr.refl _ | apply Gr.alloc | apply Gr.drewN | apply Gr.drew | apply Gr.iter | (refine Gr.setCell ?_ (by simp) _) | (refine Gr.trans ?_ (by assumption))))) s1).mono ?_; rw [HL.out]; rintro e w1 ⟨rfl, hg1⟩; have hc0 := fun o => hg1.cells wr.heap.size o (by simp))
                                   | (go_at_call 134; refine (insert06_any _ _ _ _ _ _ _ _ _ (RdAttrs.gr hr (by repeat (with_reducible first | assumption | exact Gr.refl _ | apply Gr.alloc | apply Gr.drewN | apply Gr.drew | apply Gr.iter | (refine Gr.setCell ?_ (by simp) _) | (refine Gr.trans ?_ (by assumption)))))).mono ?_; rintro e w2 ⟨rfl, hg2⟩; have hc1 := fun o => hg2.cells wr.heap.size o hg1.lt))
                       go_roundw
                       case rel =>
                         refine ⟨k + 1, _, _, by omega, by go_num, rfl, rfl, by omega, by omega, by omega, by omega, (by repeat (with_reducible first | assumption | exact Gr.refl _ | apply Gr.alloc | apply Gr.drewN | apply Gr.drew | apply Gr.iter | (refine Gr.setCell ?_ (by simp) _) | (refine Gr.trans ?_ (by assumption)))), ?_, ?_⟩
                         · have := Ht.out.1
                           rw [drop_cons Hx.out, List.foldl_cons] at this
                           refine Eq.trans (congrArg (fun z => List.foldl stB z (List.drop (k + 1) l)) ?_) this
                           unfold stB
                           dsimp only
                           rw [HL.out]
                           first | rw [if_pos (by omega)] | (rw [if_neg (by omega)]; first | rw [if_pos (by omega)] | rw [if_neg (by omega)])
                         · have := Ht.out.2
                           rw [drop_cons Hx.out, List.foldl_cons] at this
                           refine Eq.trans (congrArg (fun z => List.foldl stR z (List.drop (k + 1) l)) ?_) this
                           unfold stR
                           dsimp only
                           rw [HL.out]
                           first | rw [if_pos (by omega)] | (rw [if_neg (by omega)]; first | rw [if_pos (by omega)] | rw [if_neg (by omega)])
                       case measure => simp [intOf]; omega)
          · have r0 : 0 ≤ r := by omega
            have r3 : 1099511627776 < r + 1099511627777 := by omega
            rcases hkind with rfl | rfl | rfl | rfl
            all_goals (go_wp2_with (first
                                   | (go_at_call 133; refine (len06_any _ _ _ _ _ _ _ _ _ (RdAttrs.gr hr (by repeat (with_reducible first | assumption | exact Gr.refl _ | apply Gr.alloc | apply Gr.drewN | apply Gr.drew | apply Gr.iter | (refine Gr.setCell ?_ (by simp) _) | (refine Gr.trans ?_ (by assumption))))) s1).mono ?_; rw [HL.out]; rintro e w1 ⟨rfl, hg1⟩; have hc0 := fun o => hg1.cells wr.heap.size o (by simp))
                                   | (go_at_call 134; refine (insert06_any _ _ _ _ _ _ _ _ _ (RdAttrs.gr hr (by repeat (with_reducible first | assumption | exact Gr.refl _ | apply Gr.alloc | apply Gr.drewN | apply Gr.drew | apply Gr.iter | (refine Gr.setCell ?_ (by simp) _) | (refine Gr.trans ?_ (by assumption)))))).mono ?_; rintro e w2 ⟨rfl, hg2⟩; have hc1 := fun o => hg2.cells wr.heap.size o hg1.lt))
                       go_roundw
                       case rel =>
                         refine ⟨k + 1, _, _, by omega, by go_num, rfl, rfl, by omega, by omega, by omega, by omega, (by repeat (with_reducible first | assumption | exact Gr.refl _ | apply Gr.alloc | apply Gr.drewN | apply Gr.drew | apply Gr.iter | (refine Gr.setCell ?_ (by simp) _) | (refine Gr.trans ?_ (by assumption)))), ?_, ?_⟩
                         · have := Ht.out.1
                           rw [drop_cons Hx.out, List.foldl_cons] at this
                           refine Eq.trans (congrArg (fun z => List.foldl stB z (List.drop (k + 1) l)) ?_) this
                           unfold stB
                           dsimp only
                           rw [HL.out]
                           first | rw [if_pos (by omega)] | (rw [if_neg (by omega)]; first | rw [if_pos (by omega)] | rw [if_neg (by omega)])
                         · have := Ht.out.2
                           rw [drop_cons Hx.out, List.foldl_cons] at this
                           refine Eq.trans (congrArg (fun z => List.foldl stR z (List.drop (k + 1) l)) ?_) this
                           unfold stR
                           dsimp only
                           rw [HL.out]
                           first | rw [if_pos (by omega)] | (rw [if_neg (by omega)]; first | rw [if_pos (by omega)] | rw [if_neg (by omega)])
                       case measure => simp [intOf]; omega)
        · have b0 : 0 ≤ b := by omega
          have b2 : ¬ 1099511627776 < b := by omega
          have b3 : 1099511627776 < b + 1099511627777 := by omega
          by_cases hrn : r < 0
          · obtain rfl : r = -1 := by omega
            rcases hkind with rfl | rfl | rfl | rfl
            all_goals (go_wp2_with (first
                                   | (go_at_call 133; refine (len06_any _ _ _ _ _ _ _ _ _ (RdAttrs.gr hr (by repeat (with_reducible first | assumption | exact Gr.refl _ | apply Gr.alloc | apply Gr.drewN | apply Gr.drew | apply Gr.iter | (refine Gr.setCell ?_ (by simp) _) | (refine Gr.trans ?_ (by assumption))))) s1).mono ?_; rw [HL.out]; rintro e w1 ⟨rfl, hg1⟩; have hc0 := fun o => hg1.cells wr.heap.size o (by simp))
                                   | (go_at_call 134; refine (insert06_any _ _ _ _ _ _ _ _ _ (RdAttrs.gr hr (by repeat (with_reducible first | assumption | exact Gr.refl _ | apply Gr.alloc | apply Gr.drewN | apply Gr.drew | apply Gr.iter | (refine Gr.setCell ?_ (by simp) _) | (refine Gr.trans ?_ (by assumption)))))).mono ?_; rintro e w2 ⟨rfl, hg2⟩; have hc1 := fun o => hg2.cells wr.heap.size o hg1.lt))
                       go_roundw
                       case rel =>
                         refine ⟨k + 1, _, _, by omega, by go_num, rfl, rfl, by omega, by omega, by omega, by omega, (by repeat (with_reducible first | assumption | exact Gr.refl _ | apply Gr.alloc | apply Gr.drewN | apply Gr.drew | apply Gr.iter | (refine Gr.setCell ?_ (by simp) _) | (refine Gr.trans ?_ (by assumption)))), ?_, ?_⟩
                         · have := Ht.out.1
                           rw [drop_cons Hx.out, List.foldl_cons] at this
                           refine Eq.trans (congrArg (fun z => List.foldl stB z (List.drop (k + 1) l)) ?_) this
                           unfold stB
                           dsimp only
                           rw [HL.out]
                           first | rw [if_pos (by omega)] | (rw [if_neg (by omega)]; first | rw [if_pos (by omega)] | rw [if_neg (by omega)])
                         · have := Ht.out.2
                           rw [drop_cons Hx.out, List.foldl_cons] at this
                           refine Eq.trans (congrArg (fun z => List.foldl stR z (List.drop (k + 1) l)) ?_) this
                           unfold stR
                           dsimp only
                           rw [HL.out]
                           first | rw [if_pos (by omega)] | (rw [if_neg (by omega)]; first | rw [if_pos (by omega)] | rw [if_neg (by omega)])
                       case measure => simp [intOf]; omega)
          · have r0 : 0 ≤ r := by omega
            have r2 : ¬ 1099511627776 < r := by omega
            have r3 : 1099511627776 < r + 1099511627777 := by omega
            rcases hkind with rfl | rfl | rfl | rfl
            all_goals (go_wp2_with (first
                                   | (go_at_call 133; refine (len06_any _ _ _ _ _ _ _ _ _ (RdAttrs.gr hr (by repeat (with_reducible first | assumption | exact Gr.refl _ | apply Gr.alloc | apply Gr.drewN | apply Gr.drew | apply Gr.iter | (refine Gr.setCell ?_ (by simp) _) | (refine Gr.trans ?_ (by assumption))))) s1).mono ?_; rw [HL.out]; rintro e w1 ⟨rfl, hg1⟩; have hc0 := fun o => hg1.cells wr.heap.size o (by simp))
                                   | (go_at_call 134; refine (insert06_any _ _ _ _ _ _ _ _ _ (RdAttrs.gr hr (by repeat (with_reducible first | assumption | exact Gr.refl _ | apply Gr.alloc | apply Gr.drewN | apply Gr.drew | apply Gr.iter | (refine Gr.setCell ?_ (by simp) _) | (refine Gr.trans ?_ (by assumption)))))).mono ?_; rintro e w2 ⟨rfl, hg2⟩; have hc1 := fun o => hg2.cells wr.heap.size o hg1.lt))
                       go_roundw
                       case rel =>
                         refine ⟨k + 1, _, _, by omega, by go_num, rfl, rfl, by omega, by omega, by omega, by omega, (by repeat (with_reducible first | assumption | exact Gr.refl _ | apply Gr.alloc | apply Gr.drewN | apply Gr.drew | apply Gr.iter | (refine Gr.setCell ?_ (by simp) _) | (refine Gr.trans ?_ (by assumption)))), ?_, ?_⟩
                         · have := Ht.out.1
                           rw [drop_cons Hx.out, List.foldl_cons] at this
                           refine Eq.trans (congrArg (fun z => List.foldl stB z (List.drop (k + 1) l)) ?_) this
                           unfold stB
                           dsimp only
                           rw [HL.out]
                           first | rw [if_pos (by omega)] | (rw [if_neg (by omega)]; first | rw [if_pos (by omega)] | rw [if_neg (by omega)])
                         · have := Ht.out.2
                           rw [drop_cons Hx.out, List.foldl_cons] at this
                           refine Eq.trans (congrArg (fun z => List.foldl stR z (List.drop (k + 1) l)) ?_) this
                           unfold stR
                           dsimp only
                           rw [HL.out]
                           first | rw [if_pos (by omega)] | (rw [if_neg (by omega)]; first | rw [if_pos (by omega)] | rw [if_neg (by omega)])
                       case measure => simp [intOf]; omega)
      · have n2 : L ≤ 1099511627776 := by omega
        by_cases hbn : b < 0
        · obtain rfl : b = -1 := by omega
          by_cases hrn : r < 0
          · obtain rfl : r = -1 := by omega
            rcases hkind with rfl | rfl | rfl | rfl
            all_goals (go_wp2_with (first
                                   | (go_at_call 133; refine (len06_any _ _ _ _ _ _ _ _ _ (RdAttrs.gr hr (by repeat (with_reducible first | assumption | exact Gr.refl _ | apply Gr.alloc | apply Gr.drewN | apply Gr.drew | apply Gr.iter | (refine Gr.setCell ?_ (by simp) _) | (refine Gr.trans ?_ (by assumption))))) s1).mono ?_; rw [HL.out]; rintro e w1 ⟨rfl, hg1⟩; have hc0 := fun o => hg1.cells wr.heap.size o (by simp))
                                   | (go_at_call 134; refine (insert06_any _ _ _ _ _ _ _ _ _ (RdAttrs.gr hr (by repeat (with_reducible first | assumption | exact Gr.refl _ | apply Gr.alloc | apply Gr.drewN | apply Gr.drew | apply Gr.iter | (refine Gr.setCell ?_ (by simp) _) | (refine Gr.trans ?_ (by assumption)))))).mono ?_; rintro e w2 ⟨rfl, hg2⟩; have hc1 := fun o => hg2.cells wr.heap.size o hg1.lt))
                       go_roundw
                       case rel =>
                         refine ⟨k + 1, _, _, by omega, by go_num, rfl, rfl, by omega, by omega, by omega, by omega, (by repeat (with_reducible first | assumption | exact Gr.refl _ | apply Gr.alloc | apply Gr.drewN | apply Gr.drew | apply Gr.iter | (refine Gr.setCell ?_ (by simp) _) | (refine Gr.trans ?_ (by assumption)))), ?_, ?_⟩
                         · have := Ht.out.1
                           rw [drop_cons Hx.out, List.foldl_cons] at this
                           refine Eq.trans (congrArg (fun z => List.foldl stB z (List.drop (k + 1) l)) ?_) this
                           unfold stB
                           dsimp only
                           rw [HL.out]
                           first | rw [if_pos (by omega)] | (rw [if_neg (by omega)]; first | rw [if_pos (by omega)] | rw [if_neg (by omega)])
                         · have := Ht.out.2
                           rw [drop_cons Hx.out, List.foldl_cons] at this
                           refine Eq.trans (congrArg (fun z => List.foldl stR z (List.drop (k + 1) l)) ?_) this
                           unfold stR
                           dsimp only
                           rw [HL.out]
                           first | rw [if_pos (by omega)] | (rw [if_neg (by omega)]; first | rw [if_pos (by omega)] | rw [if_neg (by omega)])
                       case measure => simp [intOf]; omega)
          · have r0 : 0 ≤ r := by omega
            by_cases h2 : 1099511627776 < r + L
            · rcases hkind with rfl | rfl | rfl | rfl
              all_goals (go_wp2_with (first
                                     | (go_at_call 133; refine (len06_any _ _ _ _ _ _ _ _ _ (RdAttrs.gr hr (by repeat (with_reducible first | assumption | exact Gr.refl _ | apply Gr.alloc | apply Gr.drewN | apply Gr.drew | apply Gr.iter | (refine Gr.setCell ?_ (by simp) _) | (refine Gr.trans ?_ (by assumption))))) s1).mono ?_; rw [HL.out]; rintro e w1 ⟨rfl, hg1⟩; have hc0 := fun o => hg1.cells wr.heap.size o (by simp))
                                     | (go_at_call 134; refine (insert06_any _ _ _ _ _ _ _ _ _ (RdAttrs.gr hr (by repeat (with_reducible first | assumption | exact Gr.refl _ | apply Gr.alloc | apply Gr.drewN | apply Gr.drew | apply Gr.iter | (refine Gr.setCell ?_ (by simp) _) | (refine Gr.trans ?_ (by assumption)))))).mono ?_; rintro e w2 ⟨rfl, hg2⟩; have hc1 := fun o => hg2.cells wr.heap.size o hg1.lt))
                         go_roundw
                         case rel =>
                           refine ⟨k + 1, _, _, by omega, by go_num, rfl, rfl, by omega, by omega, by omega, by omega, (by repeat (with_reducible first | assumption | exact Gr.refl _ | apply Gr.alloc | apply Gr.drewN | apply Gr.drew | apply Gr.iter | (refine Gr.setCell ?_ (by simp) _) | (refine Gr.trans ?_ (by assumption)))), ?_, ?_⟩
                           · have := Ht.out.1
                             rw [drop_cons Hx.out, List.foldl_cons] at this
                             refine Eq.trans (congrArg (fun z => List.foldl stB z (List.drop (k + 1) l)) ?_) this
                             unfold stB
                             dsimp only
                             rw [HL.out]
                             first | rw [if_pos (by omega)] | (rw [if_neg (by omega)]; first | rw [if_pos (by omega)] | rw [if_neg (by omega)])
                           · have := Ht.out.2
                             rw [drop_cons Hx.out, List.foldl_cons] at this
                             refine Eq.trans (congrArg (fun z => List.foldl stR z (List.drop (k + 1) l)) ?_) this
                             unfold stR
                             dsimp only
                             rw [HL.out]
                             first | rw [if_pos (by omega)] | (rw [if_neg (by omega)]; first | rw [if_pos (by omega)] | rw [if_neg (by omega)])
                         case measure => simp [intOf]; omega)
            · rcases hkind with rfl | rfl | rfl | rfl
              all_goals (go_wp2_with (first
                                     | (go_at_call 133; refine (len06_any _ _ _ _ _ _ _ _ _ (RdAttrs.gr hr (by repeat (with_reducible first | assumption | exact Gr.refl _ | apply Gr.alloc | apply Gr.drewN | apply Gr.drew | apply Gr.iter | (refine Gr.setCell ?_ (by simp) _) | (refine Gr.trans ?_ (by assumption))))) s1).mono ?_; rw [HL.out]; rintro e w1 ⟨rfl, hg1⟩; have hc0 := fun o => hg1.cells wr.heap.size o (by simp))
                                     | (go_at_call 134; refine (insert06_any _ _ _ _ _ _ _ _ _ (RdAttrs.gr hr (by repeat (with_reducible first | assumption | exact Gr.refl _ | apply Gr.alloc | apply Gr.drewN | apply Gr.drew | apply Gr.iter | (refine Gr.setCell ?_ (by simp) _) | (refine Gr.trans ?_ (by assumption)))))).mono ?_; rintro e w2 ⟨rfl, hg2⟩; have hc1 := fun o => hg2.cells wr.heap.size o hg1.lt))
                         go_roundw
                         case rel =>
                           refine ⟨k + 1, _, _, by omega, by go_num, rfl, rfl, by omega, by omega, by omega, by omega, (by repeat (with_reducible first | assumption | exact Gr.refl _ | apply Gr.alloc | apply Gr.drewN | apply Gr.drew | apply Gr.iter | (refine Gr.setCell ?_ (by simp) _) | (refine Gr.trans ?_ (by assumption)))), ?_, ?_⟩
                           · have := Ht.out.1
                             rw [drop_cons Hx.out, List.foldl_cons] at this
                             refine Eq.trans (congrArg (fun z => List.foldl stB z (List.drop (k + 1) l)) ?_) this
                             unfold stB
                             dsimp only
                             rw [HL.out]
                             first | rw [if_pos (by omega)] | (rw [if_neg (by omega)]; first | rw [if_pos (by omega)] | rw [if_neg (by omega)])
                           · have := Ht.out.2
                             rw [drop_cons Hx.out, List.foldl_cons] at this
                             refine Eq.trans (congrArg (fun z => List.foldl stR z (List.drop (k + 1) l)) ?_) this
                             unfold stR
                             dsimp only
                             rw [HL.out]
                             first | rw [if_pos (by omega)] | (rw [if_neg (by omega)]; first | rw [if_pos (by omega)] | rw [if_neg (by omega)])
                         case measure => simp [intOf]; omega)
        · have b0 : 0 ≤ b := by omega
          have b2 : ¬ 1099511627776 < b := by omega
          by_cases h1 : 1099511627776 < b + L
          · by_cases hrn : r < 0
            · obtain rfl : r = -1 := by omega
              rcases hkind with rfl | rfl | rfl | rfl
              all_goals (go_wp2_with (first
                                     | (go_at_call 133; refine (len06_any _ _ _ _ _ _ _ _ _ (RdAttrs.gr hr (by repeat (with_reducible first | assumption | exact Gr.refl _ | apply Gr.alloc | apply Gr.drewN | apply Gr.drew | apply Gr.iter | (refine Gr.setCell ?_ (by simp) _) | (refine Gr.trans ?_ (by assumption))))) s1).mono ?_; rw [HL.out]; rintro e w1 ⟨rfl, hg1⟩; have hc0 := fun o => hg1.cells wr.heap.size o (by simp))
                                     | (go_at_call 134; refine (insert06_any _ _ _ _ _ _ _ _ _ (RdAttrs.gr hr (by repeat (with_reducible first | assumption | exact Gr.refl _ | apply Gr.alloc | apply Gr.drewN | apply Gr.drew | apply Gr.iter | (refine Gr.setCell ?_ (by simp) _) | (refine Gr.trans ?_ (by assumption)))))).mono ?_; rintro e w2 ⟨rfl, hg2⟩; have hc1 := fun o => hg2.cells wr.heap.size o hg1.lt))
                         go_roundw
                         case rel =>
                           refine ⟨k + 1, _, _, by omega, by go_num, rfl, rfl, by omega, by omega, by omega, by omega, (by repeat (with_reducible first | assumption | exact Gr.refl _ | apply Gr.alloc | apply Gr.drewN | apply Gr.drew | apply Gr.iter | (refine Gr.setCell ?_ (by simp) _) | (refine Gr.trans ?_ (by assumption)))), ?_, ?_⟩
                           · have := Ht.out.1
                             rw [drop_cons Hx.out, List.foldl_cons] at this
                             refine Eq.trans (congrArg (fun z => List.foldl stB z (List.drop (k + 1) l)) ?_) this
                             unfold stB
                             dsimp only
                             rw [HL.out]
                             first | rw [if_pos (by omega)] | (rw [if_neg (by omega)]; first | rw [if_pos (by omega)] | rw [if_neg (by omega)])
                           · have := Ht.out.2
                             rw [drop_cons Hx.out, List.foldl_cons] at this
                             refine Eq.trans (congrArg (fun z => List.foldl stR z (List.drop (k + 1) l)) ?_) this
                             unfold stR
                             dsimp only
                             rw [HL.out]
                             first | rw [if_pos (by omega)] | (rw [if_neg (by omega)]; first | rw [if_pos (by omega)] | rw [if_neg (by omega)])
                         case measure => simp [intOf]; omega)
            · have r0 : 0 ≤ r := by omega
              have r2 : ¬ 1099511627776 < r := by omega
              by_cases h2 : 1099511627776 < r + L
              · rcases hkind with rfl | rfl | rfl | rfl
                all_goals (go_wp2_with (first
                                       | (go_at_call 133; refine (len06_any _ _ _ _ _ _ _ _ _ (RdAttrs.gr hr (by repeat (with_reducible first | assumption | exact Gr.refl _ | apply Gr.alloc | apply Gr.drewN | apply Gr.drew | apply Gr.iter | (refine Gr.setCell ?_ (by simp) _) | (refine Gr.trans ?_ (by assumption))))) s1).mono ?_; rw [HL.out]; rintro e w1 ⟨rfl, hg1⟩; have hc0 := fun o => hg1.cells wr.heap.size o (by simp))
                                       | (go_at_call 134; refine (insert06_any _ _ _ _ _ _ _ _ _ (RdAttrs.gr hr (by repeat (with_reducible first | assumption | exact Gr.refl _ | apply Gr.alloc | apply Gr.drewN | apply Gr.drew | apply Gr.iter | (refine Gr.setCell ?_ (by simp) _) | (refine Gr.trans ?_ (by assumption)))))).mono ?_; rintro e w2 ⟨rfl, hg2⟩; have hc1 := fun o => hg2.cells wr.heap.size o hg1.lt))
                           go_roundw
                           case rel =>
                             refine ⟨k + 1, _, _, by omega, by go_num, rfl, rfl, by omega, by omega, by omega, by omega, (by repeat (with_reducible first | assumption | exact Gr.refl _ | apply Gr.alloc | apply Gr.drewN | apply Gr.drew | apply Gr.iter | (refine Gr.setCell ?_ (by simp) _) | (refine Gr.trans ?_ (by assumption)))), ?_, ?_⟩
                             · have := Ht.out.1
                               rw [drop_cons Hx.out, List.foldl_cons] at this
                               refine Eq.trans (congrArg (fun z => List.foldl stB z (List.drop (k + 1) l)) ?_) this
                               unfold stB
                               dsimp only
                               rw [HL.out]
                               first | rw [if_pos (by omega)] | (rw [if_neg (by omega)]; first | rw [if_pos (by omega)] | rw [if_neg (by omega)])
                             · have := Ht.out.2
                               rw [drop_cons Hx.out, List.foldl_cons] at this
                               refine Eq.trans (congrArg (fun z => List.foldl stR z (List.drop (k + 1) l)) ?_) this
                               unfold stR
                               dsimp only
                               rw [HL.out]
                               first | rw [if_pos (by omega)] | (rw [if_neg (by omega)]; first | rw [if_pos (by omega)] | rw [if_neg (by omega)])
                           case measure => simp [intOf]; omega)
              · rcases hkind with rfl | rfl | rfl | rfl
                all_goals (go_wp2_with (first
                                       | (go_at_call 133; refine (len06_any _ _ _ _ _ _ _ _ _ (RdAttrs.gr hr (by repeat (with_reducible first | assumption | exact Gr.refl _ | apply Gr.alloc | apply Gr.drewN | apply Gr.drew | apply Gr.iter | (refine Gr.setCell ?_ (by simp) _) | (refine Gr.trans ?_ (by assumption))))) s1).mono ?_; rw [HL.out]; rintro e w1 ⟨rfl, hg1⟩; have hc0 := fun o => hg1.cells wr.heap.size o (by simp))
                                       | (go_at_call 134; refine (insert06_any _ _ _ _ _ _ _ _ _ (RdAttrs.gr hr (by repeat (with_reducible first | assumption | exact Gr.refl _ | apply Gr.alloc | apply Gr.drewN | apply Gr.drew | apply Gr.iter | (refine Gr.setCell ?_ (by simp) _) | (refine Gr.trans ?_ (by assumption)))))).mono ?_; rintro e w2 ⟨rfl, hg2⟩; have hc1 := fun o => hg2.cells wr.heap.size o hg1.lt))
                           go_roundw
                           case rel =>
                             refine ⟨k + 1, _, _, by omega, by go_num, rfl, rfl, by omega, by omega, by omega, by omega, (by repeat (with_reducible first | assumption | exact Gr.refl _ | apply Gr.alloc | apply Gr.drewN | apply Gr.drew | apply Gr.iter | (refine Gr.setCell ?_ (by simp) _) | (refine Gr.trans ?_ (by assumption)))), ?_, ?_⟩
                             · have := Ht.out.1
                               rw [drop_cons Hx.out, List.foldl_cons] at this
                               refine Eq.trans (congrArg (fun z => List.foldl stB z (List.drop (k + 1) l)) ?_) this
                               unfold stB
                               dsimp only
                               rw [HL.out]
                               first | rw [if_pos (by omega)] | (rw [if_neg (by omega)]; first | rw [if_pos (by omega)] | rw [if_neg (by omega)])
                             · have := Ht.out.2
                               rw [drop_cons Hx.out, List.foldl_cons] at this
                               refine Eq.trans (congrArg (fun z => List.foldl stR z (List.drop (k + 1) l)) ?_) this
                               unfold stR
                               dsimp only
                               rw [HL.out]
                               first | rw [if_pos (by omega)] | (rw [if_neg (by omega)]; first | rw [if_pos (by omega)] | rw [if_neg (by omega)])
                           case measure => simp [intOf]; omega)
          · by_cases hrn : r < 0
            · obtain rfl : r = -1 := by omega
              rcases hkind with rfl | rfl | rfl | rfl
              all_goals (go_wp2_with (first
                                     | (go_at_call 133; refine (len06_any _ _ _ _ _ _ _ _ _ (RdAttrs.gr hr (by repeat (with_reducible first | assumption | exact Gr.refl _ | apply Gr.alloc | apply Gr.drewN | apply Gr.drew | apply Gr.iter | (refine Gr.setCell ?_ (by simp) _) | (refine Gr.trans ?_ (by assumption))))) s1).mono ?_; rw [HL.out]; rintro e w1 ⟨rfl, hg1⟩; have hc0 := fun o => hg1.cells wr.heap.size o (by simp))
                                     | (go_at_call 134; refine (insert06_any _ _ _ _ _ _ _ _ _ (RdAttrs.gr hr (by repeat (with_reducible first | assumption | exact Gr.refl _ | apply Gr.alloc | apply Gr.drewN | apply Gr.drew | apply Gr.iter | (refine Gr.setCell ?_ (by simp) _) | (refine Gr.trans ?_ (by assumption)))))).mono ?_; rintro e w2 ⟨rfl, hg2⟩; have hc1 := fun o => hg2.cells wr.heap.size o hg1.lt))
                         go_roundw
                         case rel =>
                           refine ⟨k + 1, _, _, by omega, by go_num, rfl, rfl, by omega, by omega, by omega, by omega, (by repeat (with_reducible first | assumption | exact Gr.refl _ | apply Gr.alloc | apply Gr.drewN | apply Gr.drew | apply Gr.iter | (refine Gr.setCell ?_ (by simp) _) | (refine Gr.trans ?_ (by assumption)))), ?_, ?_⟩
                           · have := Ht.out.1
                             rw [drop_cons Hx.out, List.foldl_cons] at this
                             refine Eq.trans (congrArg (fun z => List.foldl stB z (List.drop (k + 1) l)) ?_) this
                             unfold stB
                             dsimp only
                             rw [HL.out]
                             first | rw [if_pos (by omega)] | (rw [if_neg (by omega)]; first | rw [if_pos (by omega)] | rw [if_neg (by omega)])
                           · have := Ht.out.2
                             rw [drop_cons Hx.out, List.foldl_cons] at this
                             refine Eq.trans (congrArg (fun z => List.foldl stR z (List.drop (k + 1) l)) ?_) this
                             unfold stR
                             dsimp only
                             rw [HL.out]
                             first | rw [if_pos (by omega)] | (rw [if_neg (by omega)]; first | rw [if_pos (by omega)] | rw [if_neg (by omega)])
                         case measure => simp [intOf]; omega)
            · have r0 : 0 ≤ r := by omega
              have r2 : ¬ 1099511627776 < r := by omega
              by_cases h2 : 1099511627776 < r + L
              · rcases hkind with rfl | rfl | rfl | rfl
                all_goals (go_wp2_with (first
                                       | (go_at_call 133; refine (len06_any _ _ _ _ _ _ _ _ _ (RdAttrs.gr hr (by repeat (with_reducible first | assumption | exact Gr.refl _ | apply Gr.alloc | apply Gr.drewN | apply Gr.drew | apply Gr.iter | (refine Gr.setCell ?_ (by simp) _) | (refine Gr.trans ?_ (by assumption))))) s1).mono ?_; rw [HL.out]; rintro e w1 ⟨rfl, hg1⟩; have hc0 := fun o => hg1.cells wr.heap.size o (by simp))
                                       | (go_at_call 134; refine (insert06_any _ _ _ _ _ _ _ _ _ (RdAttrs.gr hr (by repeat (with_reducible first | assumption | exact Gr.refl _ | apply Gr.alloc | apply Gr.drewN | apply Gr.drew | apply Gr.iter | (refine Gr.setCell ?_ (by simp) _) | (refine Gr.trans ?_ (by assumption)))))).mono ?_; rintro e w2 ⟨rfl, hg2⟩; have hc1 := fun o => hg2.cells wr.heap.size o hg1.lt))
                           go_roundw
                           case rel =>
                             refine ⟨k + 1, _, _, by omega, by go_num, rfl, rfl, by omega, by omega, by omega, by omega, (by repeat (with_reducible first | assumption | exact Gr.refl _ | apply Gr.alloc | apply Gr.drewN | apply Gr.drew | apply Gr.iter | (refine Gr.setCell ?_ (by simp) _) | (refine Gr.trans ?_ (by assumption)))), ?_, ?_⟩
                             · have := Ht.out.1
                               rw [drop_cons Hx.out, List.foldl_cons] at this
                               refine Eq.trans (congrArg (fun z => List.foldl stB z (List.drop (k + 1) l)) ?_) this
                               unfold stB
                               dsimp only
                               rw [HL.out]
                               first | rw [if_pos (by omega)] | (rw [if_neg (by omega)]; first | rw [if_pos (by omega)] | rw [if_neg (by omega)])
                             · have := Ht.out.2
                               rw [drop_cons Hx.out, List.foldl_cons] at this
                               refine Eq.trans (congrArg (fun z => List.foldl stR z (List.drop (k + 1) l)) ?_) this
                               unfold stR
                               dsimp only
                               rw [HL.out]
                               first | rw [if_pos (by omega)] | (rw [if_neg (by omega)]; first | rw [if_pos (by omega)] | rw [if_neg (by omega)])
                           case measure => simp [intOf]; omega)
              · rcases hkind with rfl | rfl | rfl | rfl
                all_goals (go_wp2_with (first
                                       | (go_at_call 133; refine (len06_any _ _ _ _ _ _ _ _ _ (RdAttrs.gr hr (by repeat (with_reducible first | assumption | exact Gr.refl _ | apply Gr.alloc | apply Gr.drewN | apply Gr.drew | apply Gr.iter | (refine Gr.setCell ?_ (by simp) _) | (refine Gr.trans ?_ (by assumption))))) s1).mono ?_; rw [HL.out]; rintro e w1 ⟨rfl, hg1⟩; have hc0 := fun o => hg1.cells wr.heap.size o (by simp))
                                       | (go_at_call 134; refine (insert06_any _ _ _ _ _ _ _ _ _ (RdAttrs.gr hr (by repeat (with_reducible first | assumption | exact Gr.refl _ | apply Gr.alloc | apply Gr.drewN | apply Gr.drew | apply Gr.iter | (refine Gr.setCell ?_ (by simp) _) | (refine Gr.trans ?_ (by assumption)))))).mono ?_; rintro e w2 ⟨rfl, hg2⟩; have hc1 := fun o => hg2.cells wr.heap.size o hg1.lt))
                           go_roundw
                           case rel =>
                             refine ⟨k + 1, _, _, by omega, by go_num, rfl, rfl, by omega, by omega, by omega, by omega, (by repeat (with_reducible first | assumption | exact Gr.refl _ | apply Gr.alloc | apply Gr.drewN | apply Gr.drew | apply Gr.iter | (refine Gr.setCell ?_ (by simp) _) | (refine Gr.trans ?_ (by assumption)))), ?_, ?_⟩
                             · have := Ht.out.1
                               rw [drop_cons Hx.out, List.foldl_cons] at this
                               refine Eq.trans (congrArg (fun z => List.foldl stB z (List.drop (k + 1) l)) ?_) this
                               unfold stB
                               dsimp only
                               rw [HL.out]
                               first | rw [if_pos (by omega)] | (rw [if_neg (by omega)]; first | rw [if_pos (by omega)] | rw [if_neg (by omega)])
                             · have := Ht.out.2
                               rw [drop_cons Hx.out, List.foldl_cons] at this
                               refine Eq.trans (congrArg (fun z => List.foldl stR z (List.drop (k + 1) l)) ?_) this
                               unfold stR
                               dsimp only
                               rw [HL.out]
                               first | rw [if_pos (by omega)] | (rw [if_neg (by omega)]; first | rw [if_pos (by omega)] | rw [if_neg (by omega)])
                           case measure => simp [intOf]; omega)
    · obtain rfl : k = n := by omega
      have hl0 : l.drop k = [] := List.drop_eq_nil_of_le (by rw [hn.out]; exact Nat.le_refl _)
      go_wp2
      go_ret2
      obtain ⟨t1, t2⟩ := Ht.out
      rw [hl0] at t1 t2
      exact ⟨by rw [← t1, ← t2]; rfl, hg⟩


/-- ref06.Long's answer. -/
def long06 (l : List Op) : Bool := decide (l.foldl stB 0 < 0) || decide (l.foldl stR 0 < 0)
set_option maxHeartbeats 1000000 in
theorem long06_any (l : List Op) (v : Value) (w : World) (hl : RdOps w v l) (hok : ∀ o ∈ l, (o.kind = 1 ∨ o.kind = 2 ∨ o.kind = 3 ∨ o.kind = 4) ∧ 0 ≤ len06 o) :
    Calls Tryz.prog 116 #[v] w fun e w' => e = .returned (.bool (long06 l)) ∧ Gr w w' := by
  obtain ⟨a, n, cap, rfl, -⟩ := hl.sl
  unfold long06
  obtain ⟨b, hb⟩ : ∃ b, l.foldl stB 0 = b := ⟨_, rfl⟩
  obtain ⟨r, hr⟩ : ∃ r, l.foldl stR 0 = r := ⟨_, rfl⟩
  rw [hb, hr]
  have HB := Lib.hid (And.intro hb hr); clear hb hr
  go_enter Tryz.func116, Tryz.ntmps116
  go_wp2_with (go_at_call 155; refine (lens06_any l _ _ (RdOps.gr hl (by repeat (with_reducible first | assumption | exact Gr.refl _ | apply Gr.alloc | apply Gr.drewN | apply Gr.drew | apply Gr.iter | (refine Gr.setCell ?_ (by simp) _) | (refine Gr.trans ?_ (by assumption))))) hok).mono ?_; rw [HB.out.1, HB.out.2]; rintro e w1 ⟨rfl, hg1⟩)
  all_goals go_ret
  all_goals refine ⟨ret_bool ?_, (by repeat (with_reducible first | assumption | exact Gr.refl _ | apply Gr.alloc | apply Gr.drewN | apply Gr.drew | apply Gr.iter | (refine Gr.setCell ?_ (by simp) _) | (refine Gr.trans ?_ (by assumption))))⟩
  all_goals simp_all


end Ve
