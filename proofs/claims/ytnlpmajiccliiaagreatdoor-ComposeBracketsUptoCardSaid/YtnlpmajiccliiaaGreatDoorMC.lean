/- Walks: the reference of layer 4: copied, Cut. -/
import Derived.Test.YtnlpmajiccliiaaGreatDoorT3
import Derived.Test.YtnlpmajiccliiaaGreatDoorR9
import Derived.Test.YtnlpmajiccliiaaGreatDoorW4
set_option linter.all false
namespace Ve
open Go Go.RowKit Go.Proofs

theorem blk3M (w : World) (e1 : TypeId) (c1 : Array Value) (e2 : TypeId) (c2 : Array Value) (e3 : TypeId) (c3 : Array Value) : ∃ W, ((w.alloc (.cells c1 e1)).alloc (.cells c2 e2)).alloc (.cells c3 e3) = W ∧ Blk W w.heap.size e1 c1 ∧ Blk W (w.heap.size + 1) e2 c2 ∧ Blk W (w.heap.size + 1 + 1) e3 c3 ∧ Gr w W := by
  refine ⟨_, rfl, (Blk.new w e1 c1).gr (((Gr.refl _).alloc _).alloc _), ?_, ?_, (((Gr.refl w).alloc _).alloc _).alloc _⟩
  · have := (Blk.new (w.alloc (.cells c1 e1)) e2 c2).gr ((Gr.refl _).alloc (.cells c3 e3))
    simpa using this
  · have := Blk.new ((w.alloc (.cells c1 e1)).alloc (.cells c2 e2)) e3 c3
    simpa using this
theorem OwnL.shapeM {α : Type} {R : World → α → List Value → Prop} {k base : Nat} {e : TypeId} {w : World} {v : Value} {l : List α} (h : OwnL R k base e w v l) (hne : l ≠ []) : ∃ g cap, v = .slice (some ⟨g, 0, none⟩) l.length cap ∧ l.length ≤ cap ∧ cap ≤ 9223372036854775807 := by
  obtain ⟨xs, ho, hr⟩ := h
  rcases ho.2 with ⟨_, h0⟩ | ⟨g, cap, cur, rfl, _, _, hc, hm, _⟩
  · exact absurd (List.eq_nil_of_length_eq_zero h0) hne
  · exact ⟨g, cap, rfl, hc, by unfold maxLen at hm; omega⟩
structure ShutM (T : Prop) : Prop where
  out : T
theorem sharedM {T G : Prop} (h : ShutM T → G) (t : T) : G := h ⟨t⟩
set_option maxHeartbeats 2000000 in
theorem Blk.set7M {w : World} {g : Nat} {e : TypeId} {x0 x1 x2 x3 x4 x5 x6 : Value} (h : Blk w g e #[x0, x1, x2, x3, x4, x5, x6]) (u0 u1 u2 u3 u4 u5 u6 : Value) :
    Blk (((((((w.setCell ⟨g, 0, none⟩ u0).setCell ⟨g, 1, none⟩ u1).setCell ⟨g, 2, none⟩ u2).setCell ⟨g, 3, none⟩ u3).setCell ⟨g, 4, none⟩ u4).setCell ⟨g, 5, none⟩ u5).setCell ⟨g, 6, none⟩ u6) g e #[u0, u1, u2, u3, u4, u5, u6] := by
  have := ((((((h.set 0 u0).set 1 u1).set 2 u2).set 3 u3).set 4 u4).set 5 u5).set 6 u6
  simpa using this
theorem Blk.far7M {w : World} {g p : Nat} {e : TypeId} {cs : Array Value} (h : Blk w g e cs) (hp : g ≠ p) (u0 u1 u2 u3 u4 u5 u6 : Value) :
    Blk (((((((w.setCell ⟨p, 0, none⟩ u0).setCell ⟨p, 1, none⟩ u1).setCell ⟨p, 2, none⟩ u2).setCell ⟨p, 3, none⟩ u3).setCell ⟨p, 4, none⟩ u4).setCell ⟨p, 5, none⟩ u5).setCell ⟨p, 6, none⟩ u6) g e cs := by
  iterate 7 (refine Blk.far ?_ hp _)
  exact h
theorem own7M {w : World} {g base : Nat} {v : Value} {l : List Attr} (h : OwnL AttrR 4 base 176 w v l) (hg : g < base) (u0 u1 u2 u3 u4 u5 u6 : Value) :
    OwnL AttrR 4 base 176 (((((((w.setCell ⟨g, 0, none⟩ u0).setCell ⟨g, 1, none⟩ u1).setCell ⟨g, 2, none⟩ u2).setCell ⟨g, 3, none⟩ u3).setCell ⟨g, 4, none⟩ u4).setCell ⟨g, 5, none⟩ u5).setCell ⟨g, 6, none⟩ u6) v l := by
  iterate 7 (refine OwnL.setCell (R := AttrR) ?_ (show _ < base from hg) _ (fun _ _ h => h.any))
  exact h
theorem gr7M {a w : World} {g : Nat} (h : Gr a w) (hg : a.heap.size ≤ g) (u0 u1 u2 u3 u4 u5 u6 : Value) :
    Gr a (((((((w.setCell ⟨g, 0, none⟩ u0).setCell ⟨g, 1, none⟩ u1).setCell ⟨g, 2, none⟩ u2).setCell ⟨g, 3, none⟩ u3).setCell ⟨g, 4, none⟩ u4).setCell ⟨g, 5, none⟩ u5).setCell ⟨g, 6, none⟩ u6) := by
  iterate 7 (refine Gr.setCell ?_ hg _)
  exact h

set_option maxHeartbeats 400000 in
theorem copied04_any (l : List Attr) (v : Value) (w : World) (hl : RdAttrs w v l) :
    Calls Tryz.prog 95 #[v] w fun e w' => ∃ v', e = .returned v' ∧ OwnL AttrR 4 w.heap.size 176 w' v' l ∧ Gr w w' := by
  obtain ⟨a, n, cap, rfl, -, -, hb, hn⟩ := hl.sl
  obtain ⟨v', w', hrun, hown, hg, -⟩ := app_attr (w.alloc (.cells #[] 176)) w.heap.size 61 (OwnL.made w AttrR 4 w.heap.size 176 (Nat.le_refl _)) (RdAttrs.gr hl (by repeat (with_reducible first | assumption | exact Gr.refl _ | apply Gr.alloc | apply Gr.drewN | apply Gr.drew | apply Gr.iter | (refine Gr.setCell ?_ (by simp) _) | (refine Gr.trans ?_ (by assumption))))) (by simp; rw [hn.out]; exact hb) (by simp)
  have HH := Lib.hid (And.intro hrun (And.intro hown hg)); clear hrun hown hg
  go_enter Tryz.func95, Tryz.ntmps95
  go_wp2_with (at_builtin; refine wpList_run rfl _ _ _ rfl rfl rfl HH.out.1 ?_)
  go_ret
  exact ⟨_, rfl, HH.out.2.1, ((Gr.refl w).alloc _).grown HH.out.2.2 (by simp [Value.ownBlock])⟩


set_option maxRecDepth 20000 in
set_option maxHeartbeats 8000000 in
theorem cut04_text {ea : Nat → Addr} (t : ByteArray) (va vb : Int) (vt : ByteArray) (c : Int) (sl : Value) (l : List Attr) (w : World) (hE : Env ea w) (hl : RdAttrs w sl l) (ht : szS t) (hvt : szS vt) (hok : refuse ⟨1, t, ⟨va, vb, vt⟩, c, l⟩ = 0) (m : Nat) (h1 : 1 ≤ m) (h2 : m < (runes t).length) :
    Calls Tryz.prog 113 #[.agg #[.int .i64 1, .string t, .int .i64 va, .int .i64 vb, .string vt, .int .i64 c, sl], .int .i64 m] w fun e w' => ∃ s1 s2,
      e = .returned (.tuple #[opV ⟨1, textL ((runes t).take m), ep, 0, l⟩ s1, opV ⟨1, textL ((runes t).drop m), ep, 0, l⟩ s2, .int .i64 0]) ∧ OwnL AttrR 4 w.heap.size 176 w' s1 l ∧ OwnL AttrR 4 w.heap.size 176 w' s2 l ∧ Gr w w' := by
  obtain ⟨a, cap, rfl, -, -, hb⟩ := hl.slice
  have hv : brk t = t.size := (refuse_text hok).2.1
  have hle := runes_le t
  have ht40 := ht.le40
  obtain ⟨L, hL⟩ : ∃ L, (runes t).length = L := ⟨_, rfl⟩
  have hR : rlen ⟨1, t, ⟨va, vb, vt⟩, c, l⟩ = (L : Int) := by rw [← hL]; simp [rlen]
  have HR := Lib.hid hR; clear hR
  have HK := Lib.hid hok; clear hok
  have HSC := Lib.hid (text_of hv).2
  obtain ⟨z1, z2⟩ := text_take_sz hv ht m
  have Hz := Lib.hid (And.intro z1 z2); clear z1 z2
  rw [hL] at h2 hle
  have hrne : runes t ≠ [] := fun e => by rw [e] at hL; simp at hL; omega
  have n1 : ¬ (m : Int) < 1 := by omega
  have n2 : (m : Int) < L := by omega
  have n3 : m ≤ L := by omega
  go_enter Tryz.func113, Tryz.ntmps113
  go_wp2_with (first
    | (go_at_call 150; obtain ⟨W, hW, B0, B1, B2, hg⟩ := blk3M w 65 #[.int .i64 1, .string t, .int .i64 va, .int .i64 vb, .string vt, .int .i64 c, .slice a l.length cap] 65 #[.int .i64 0, .string ⟨#[]⟩, .int .i64 0, .int .i64 0, .string ⟨#[]⟩, .int .i64 0, .slice none 0 0] 65 #[.int .i64 0, .string ⟨#[]⟩, .int .i64 0, .int .i64 0, .string ⟨#[]⟩, .int .i64 0, .slice none 0 0]; rw [hW]; clear hW; refine (rrefuse_any 1 t va vb vt c _ l _ (hE.gr (by repeat (with_reducible first | assumption | exact Gr.refl _ | apply Gr.alloc | apply Gr.drewN | apply Gr.drew | apply Gr.iter | (refine Gr.setCell ?_ (by simp) _) | (refine Gr.trans ?_ (by assumption))))) (RdAttrs.gr hl (by repeat (with_reducible first | assumption | exact Gr.refl _ | apply Gr.alloc | apply Gr.drewN | apply Gr.drew | apply Gr.iter | (refine Gr.setCell ?_ (by simp) _) | (refine Gr.trans ?_ (by assumption))))) ht hvt).mono ?_; rw [HK.out]; rintro e w1 ⟨rfl, hg1⟩; have C0 := B0.gr hg1; have d0 := C0.cell)
    | (go_at_call 94; refine (rclen_any 1 t va vb vt c _ l _ (RdAttrs.gr hl (by repeat (with_reducible first | assumption | exact Gr.refl _ | apply Gr.alloc | apply Gr.drewN | apply Gr.drew | apply Gr.iter | (refine Gr.setCell ?_ (by simp) _) | (refine Gr.trans ?_ (by assumption))))) ht (.inl rfl)).mono ?_; rw [HR.out]; rintro e w2 ⟨rfl, hg2⟩; have D0 := C0.gr hg2; have e0 := D0.cell)
    | (go_at_call 96; refine (rlist_any t _ ht).mono ?_; rintro e w3 ⟨v3, rfl, ho3, hg3⟩; obtain ⟨b3, c3, hv3, hc3, hm3⟩ := ho3.shapeM hrne; rw [hL] at hv3 hc3; subst hv3; have E0 := D0.gr hg3; have f0 := E0.cell))
  have f6 := f0 6
  have hrd := OwnL.rd ho3 (by rw [hL]; omega)
  have hT : RdList RuneR 1 w3 (.slice (some ⟨b3, 0, none⟩) m c3) ((runes t).take m) := RdList.take hrd m (by omega)
  have hD : RdList RuneR 1 w3 (.slice (some ⟨b3, m, none⟩) (L - m) (c3 - m)) ((runes t).drop m) := by simpa using RdList.drop hrd m (by omega)
  obtain ⟨A, hA⟩ : ∃ A, textL ((runes t).take m) = A := ⟨_, rfl⟩
  obtain ⟨B, hB⟩ : ∃ B, textL ((runes t).drop m) = B := ⟨_, rfl⟩
  have HT := Lib.hid hT; have HD := Lib.hid hD; have HAB := Lib.hid (And.intro hA hB)
  clear hT hD hrd ho3 hA hB
  have n4 : (m : Int) ≤ c3 := by omega
  have n5 : m ≤ c3 := by omega
  apply sharedM
  case h =>
    intro cont
    go_region_held3 (fun W' => W'.cell? ⟨w.heap.size, 6, none⟩ = some (.slice a l.length cap)) ((refine Gr.cell (w := w3) ?_ f6; repeat (with_reducible first | assumption | exact Gr.refl _ | apply Gr.alloc | apply Gr.drew | (refine Gr.setCell ?_ (by first | (simp; done) | (dsimp only; omega)) _) | (refine Gr.trans ?_ (by assumption)))))
      (first
        | (go_at_call 151; refine Calls.mono (rtext01_any ((runes t).take m) (.slice (some ⟨b3, 0, none⟩) m c3) _ (RdList.gr (w := w3) HT.out (fun _ _ h => h) (by repeat (with_reducible first | assumption | exact Gr.refl _ | apply Gr.alloc | apply Gr.drewN | apply Gr.drew | apply Gr.iter | (refine Gr.setCell ?_ (by simp) _) | (refine Gr.trans ?_ (by assumption))))) (fun r hr => HSC.out r (List.mem_of_mem_take hr)) Hz.out.1) ?_; rw [HAB.out.1]; rintro e wa ⟨rfl, hga⟩; have zga : w3.heap.size ≤ wa.heap.size := Gr.size (w := w3) (w' := wa) (by repeat (with_reducible first | assumption | exact Gr.refl _ | apply Gr.alloc | apply Gr.drewN | apply Gr.drew | apply Gr.iter | (refine Gr.setCell ?_ (by simp) _) | (refine Gr.trans ?_ (by assumption)))); (try have az : Blk wa w3.heap.size 65 #[.int .i64 0, .string ⟨#[]⟩, .int .i64 0, .int .i64 0, .string ⟨#[]⟩, .int .i64 0, .slice none 0 0] := (Blk.new w3.drew 65 #[.int .i64 0, .string ⟨#[]⟩, .int .i64 0, .int .i64 0, .string ⟨#[]⟩, .int .i64 0, .slice none 0 0]).gr hga))
        | (go_at_call 95; refine (copied04_any l _ _ (RdAttrs.gr hl (by repeat (with_reducible first | assumption | exact Gr.refl _ | apply Gr.alloc | apply Gr.drewN | apply Gr.drew | apply Gr.iter | (refine Gr.setCell ?_ (by simp) _) | (refine Gr.trans ?_ (by assumption)))))).mono ?_; rintro e wb ⟨v4, rfl, ho4, hgb⟩; obtain ⟨a4, m4, c4, rfl, -⟩ := ho4.sl; have zgb : wa.heap.size ≤ wb.heap.size := Gr.size (w := wa) (w' := wb) (by repeat (with_reducible first | assumption | exact Gr.refl _ | apply Gr.alloc | apply Gr.drewN | apply Gr.drew | apply Gr.iter | (refine Gr.setCell ?_ (by simp) _) | (refine Gr.trans ?_ (by assumption)))); (first | (have bz := (Blk.new wa 65 #[.int .i64 0, .string ⟨#[]⟩, .int .i64 0, .int .i64 0, .string ⟨#[]⟩, .int .i64 0, .slice none 0 0]).gr hgb; have bzc := bz.cell; have bzf := bz.frozen; have bzz := bz.lt) | (have bz := az.gr hgb; have bzc := bz.cell; have bzf := bz.frozen; have bzz := bz.lt) | skip)))
    · rename_i hh
      clear hh
      obtain ⟨WZ, hWZ⟩ : ∃ WZ, wb.alloc (.cells #[.int .i64 1, .string A, .int .i64 0, .int .i64 0, .string ⟨#[]⟩, .int .i64 0, .slice a4 m4 c4] 65) = WZ := ⟨_, rfl⟩
      have F : Blk WZ wb.heap.size 65 #[.int .i64 1, .string A, .int .i64 0, .int .i64 0, .string ⟨#[]⟩, .int .i64 0, .slice a4 m4 c4] ∧ OwnL AttrR 4 w3.heap.size 176 WZ (.slice a4 m4 c4) l ∧ Gr w3 WZ ∧ w3.heap.size ≤ wb.heap.size := by
        subst hWZ
        exact ⟨Blk.new _ _ _, OwnL.base_le (OwnL.gr ho4 (fun _ _ h => h) ((Gr.refl _).alloc _)) zga, Gr.alloc (show Gr w3 wb from (by repeat (with_reducible first | assumption | exact Gr.refl _ | apply Gr.alloc | apply Gr.drewN | apply Gr.drew | apply Gr.iter | (refine Gr.setCell ?_ (by simp) _) | (refine Gr.trans ?_ (by assumption))))) _, by omega⟩
      rw [hWZ]
      clear hWZ ho4 hgb hga zgb zga
      generalize wb.heap.size = P at F ⊢
      revert F; revert P; revert WZ; revert a4 m4 c4
      exact cont.out
    · rename_i hh
      clear hh
      have F := And.intro (Blk.set7M bz (.int .i64 1) (.string A) (.int .i64 0) (.int .i64 0) (.string ⟨#[]⟩) (.int .i64 0) (.slice a4 m4 c4)) (And.intro (OwnL.base_le (base' := w3.heap.size) (own7M (g := wa.heap.size) ho4 (by simp) (.int .i64 1) (.string A) (.int .i64 0) (.int .i64 0) (.string ⟨#[]⟩) (.int .i64 0) (.slice a4 m4 c4)) (by simp; omega)) (And.intro (gr7M (a := w3) (show Gr w3 wb from (by repeat (with_reducible first | assumption | exact Gr.refl _ | apply Gr.alloc | apply Gr.drewN | apply Gr.drew | apply Gr.iter | (refine Gr.setCell ?_ (by simp) _) | (refine Gr.trans ?_ (by assumption))))) zga (.int .i64 1) (.string A) (.int .i64 0) (.int .i64 0) (.string ⟨#[]⟩) (.int .i64 0) (.slice a4 m4 c4)) zga))
      clear bz bzc bzf bzz ho4 hgb
      generalize hWZ : ((((((wb.setCell ⟨wa.heap.size, 0, none⟩ (.int .i64 1)).setCell ⟨wa.heap.size, 1, none⟩ (.string A)).setCell ⟨wa.heap.size, 2, none⟩ (.int .i64 0)).setCell ⟨wa.heap.size, 3, none⟩ (.int .i64 0)).setCell ⟨wa.heap.size, 4, none⟩ (.string ⟨#[]⟩)).setCell ⟨wa.heap.size, 5, none⟩ (.int .i64 0)).setCell ⟨wa.heap.size, 6, none⟩ (.slice a4 m4 c4) = WZ at F ⊢
      clear hWZ zga zgb hga
      generalize wa.heap.size = P at F ⊢
      revert F; revert P; revert WZ; revert a4 m4 c4
      exact cont.out
    · rename_i hh
      clear hh
      have F := And.intro (Blk.set7M bz (.int .i64 1) (.string A) (.int .i64 0) (.int .i64 0) (.string ⟨#[]⟩) (.int .i64 0) (.slice a4 m4 c4)) (And.intro (OwnL.base_le (base' := w3.heap.size) (own7M (g := w3.heap.size) ho4 az.lt (.int .i64 1) (.string A) (.int .i64 0) (.int .i64 0) (.string ⟨#[]⟩) (.int .i64 0) (.slice a4 m4 c4)) zga) (And.intro (gr7M (a := w3) (show Gr w3 wb from (by repeat (with_reducible first | assumption | exact Gr.refl _ | apply Gr.alloc | apply Gr.drewN | apply Gr.drew | apply Gr.iter | (refine Gr.setCell ?_ (by simp) _) | (refine Gr.trans ?_ (by assumption))))) (Nat.le_refl w3.heap.size) (.int .i64 1) (.string A) (.int .i64 0) (.int .i64 0) (.string ⟨#[]⟩) (.int .i64 0) (.slice a4 m4 c4)) (Nat.le_refl w3.heap.size)))
      clear bz bzc bzf bzz ho4 hgb
      generalize hWZ : ((((((wb.setCell ⟨w3.heap.size, 0, none⟩ (.int .i64 1)).setCell ⟨w3.heap.size, 1, none⟩ (.string A)).setCell ⟨w3.heap.size, 2, none⟩ (.int .i64 0)).setCell ⟨w3.heap.size, 3, none⟩ (.int .i64 0)).setCell ⟨w3.heap.size, 4, none⟩ (.string ⟨#[]⟩)).setCell ⟨w3.heap.size, 5, none⟩ (.int .i64 0)).setCell ⟨w3.heap.size, 6, none⟩ (.slice a4 m4 c4) = WZ at F ⊢
      clear hWZ zgb az hga zga
      obtain ⟨P, hPP⟩ : ∃ P, w3.heap.size = P := ⟨_, rfl⟩
      have F2 := And.intro (show Blk WZ P 65 _ from hPP ▸ F.1) (And.intro F.2.1 (And.intro F.2.2.1 (show w3.heap.size ≤ P from Nat.le_of_eq hPP)))
      clear F
      rw [hPP]
      clear hPP
      revert F2; revert P; revert WZ; revert a4 m4 c4
      exact cont.out
  case t =>
    intro a4 m4 c4 W5 P F
    obtain ⟨BP, O4, g5, hP⟩ := F
    have g6 := Gr.cell g5 f6
    have HD5 := Lib.hid (RdList.gr (w := w3) (w' := W5) HD.out (fun _ _ h => h) g5)
    have n6 : ¬ c3 = m := by omega
    go_wp2
    apply sharedM
    case h =>
      intro cont
      go_region_held3 (fun W' => W'.cell? ⟨w.heap.size, 6, none⟩ = some (.slice a l.length cap)) ((refine Gr.cell (w := W5) ?_ g6; repeat (with_reducible first | assumption | exact Gr.refl _ | apply Gr.alloc | apply Gr.drew | (refine Gr.setCell ?_ (by first | (simp; done) | (dsimp only; omega)) _) | (refine Gr.trans ?_ (by assumption)))))
        (first
          | (go_at_call 151; refine Calls.mono (rtext01_any ((runes t).drop m) (.slice (some ⟨b3, m, none⟩) (L - m) (c3 - m)) _ (RdList.gr (w := W5) HD5.out (fun _ _ h => h) (by repeat (with_reducible first | assumption | exact Gr.refl _ | apply Gr.alloc | apply Gr.drewN | apply Gr.drew | apply Gr.iter | (refine Gr.setCell ?_ (by simp) _) | (refine Gr.trans ?_ (by assumption))))) (fun r hr => HSC.out r (List.mem_of_mem_drop hr)) Hz.out.2) ?_; rw [HAB.out.2]; rintro e wa ⟨rfl, hga⟩; have zga : W5.heap.size ≤ wa.heap.size := Gr.size (w := W5) (w' := wa) (by repeat (with_reducible first | assumption | exact Gr.refl _ | apply Gr.alloc | apply Gr.drewN | apply Gr.drew | apply Gr.iter | (refine Gr.setCell ?_ (by simp) _) | (refine Gr.trans ?_ (by assumption)))); (try have az : Blk wa W5.heap.size 65 #[.int .i64 0, .string ⟨#[]⟩, .int .i64 0, .int .i64 0, .string ⟨#[]⟩, .int .i64 0, .slice none 0 0] := (Blk.new W5.drew 65 #[.int .i64 0, .string ⟨#[]⟩, .int .i64 0, .int .i64 0, .string ⟨#[]⟩, .int .i64 0, .slice none 0 0]).gr hga))
          | (go_at_call 95; refine (copied04_any l _ _ (RdAttrs.gr hl (by repeat (with_reducible first | assumption | exact Gr.refl _ | apply Gr.alloc | apply Gr.drewN | apply Gr.drew | apply Gr.iter | (refine Gr.setCell ?_ (by simp) _) | (refine Gr.trans ?_ (by assumption)))))).mono ?_; rintro e wb ⟨v4, rfl, ho4, hgb⟩; obtain ⟨a4, m4, c4, rfl, -⟩ := ho4.sl; have zgb : wa.heap.size ≤ wb.heap.size := Gr.size (w := wa) (w' := wb) (by repeat (with_reducible first | assumption | exact Gr.refl _ | apply Gr.alloc | apply Gr.drewN | apply Gr.drew | apply Gr.iter | (refine Gr.setCell ?_ (by simp) _) | (refine Gr.trans ?_ (by assumption)))); (first | (have bz := (Blk.new wa 65 #[.int .i64 0, .string ⟨#[]⟩, .int .i64 0, .int .i64 0, .string ⟨#[]⟩, .int .i64 0, .slice none 0 0]).gr hgb; have bzc := bz.cell; have bzf := bz.frozen; have bzz := bz.lt) | (have bz := az.gr hgb; have bzc := bz.cell; have bzf := bz.frozen; have bzz := bz.lt) | skip)))
      · rename_i hh
        clear hh
        obtain ⟨WZ, hWZ⟩ : ∃ WZ, wb.alloc (.cells #[.int .i64 1, .string B, .int .i64 0, .int .i64 0, .string ⟨#[]⟩, .int .i64 0, .slice a4 m4 c4] 65) = WZ := ⟨_, rfl⟩
        have F : Blk WZ wb.heap.size 65 #[.int .i64 1, .string B, .int .i64 0, .int .i64 0, .string ⟨#[]⟩, .int .i64 0, .slice a4 m4 c4] ∧ OwnL AttrR 4 W5.heap.size 176 WZ (.slice a4 m4 c4) l ∧ Gr W5 WZ ∧ W5.heap.size ≤ wb.heap.size := by
          subst hWZ
          exact ⟨Blk.new _ _ _, OwnL.base_le (OwnL.gr ho4 (fun _ _ h => h) ((Gr.refl _).alloc _)) zga, Gr.alloc (show Gr W5 wb from (by repeat (with_reducible first | assumption | exact Gr.refl _ | apply Gr.alloc | apply Gr.drewN | apply Gr.drew | apply Gr.iter | (refine Gr.setCell ?_ (by simp) _) | (refine Gr.trans ?_ (by assumption))))) _, by omega⟩
        rw [hWZ]
        clear hWZ ho4 hgb hga zgb zga
        generalize wb.heap.size = P at F ⊢
        revert F; revert P; revert WZ; revert a4 m4 c4
        exact cont.out
      · rename_i hh
        clear hh
        have F := And.intro (Blk.set7M bz (.int .i64 1) (.string B) (.int .i64 0) (.int .i64 0) (.string ⟨#[]⟩) (.int .i64 0) (.slice a4 m4 c4)) (And.intro (OwnL.base_le (base' := W5.heap.size) (own7M (g := wa.heap.size) ho4 (by simp) (.int .i64 1) (.string B) (.int .i64 0) (.int .i64 0) (.string ⟨#[]⟩) (.int .i64 0) (.slice a4 m4 c4)) (by simp; omega)) (And.intro (gr7M (a := W5) (show Gr W5 wb from (by repeat (with_reducible first | assumption | exact Gr.refl _ | apply Gr.alloc | apply Gr.drewN | apply Gr.drew | apply Gr.iter | (refine Gr.setCell ?_ (by simp) _) | (refine Gr.trans ?_ (by assumption))))) zga (.int .i64 1) (.string B) (.int .i64 0) (.int .i64 0) (.string ⟨#[]⟩) (.int .i64 0) (.slice a4 m4 c4)) zga))
        clear bz bzc bzf bzz ho4 hgb
        generalize hWZ : ((((((wb.setCell ⟨wa.heap.size, 0, none⟩ (.int .i64 1)).setCell ⟨wa.heap.size, 1, none⟩ (.string B)).setCell ⟨wa.heap.size, 2, none⟩ (.int .i64 0)).setCell ⟨wa.heap.size, 3, none⟩ (.int .i64 0)).setCell ⟨wa.heap.size, 4, none⟩ (.string ⟨#[]⟩)).setCell ⟨wa.heap.size, 5, none⟩ (.int .i64 0)).setCell ⟨wa.heap.size, 6, none⟩ (.slice a4 m4 c4) = WZ at F ⊢
        clear hWZ zga zgb hga
        generalize wa.heap.size = P at F ⊢
        revert F; revert P; revert WZ; revert a4 m4 c4
        exact cont.out
      · rename_i hh
        clear hh
        have F := And.intro (Blk.set7M bz (.int .i64 1) (.string B) (.int .i64 0) (.int .i64 0) (.string ⟨#[]⟩) (.int .i64 0) (.slice a4 m4 c4)) (And.intro (OwnL.base_le (base' := W5.heap.size) (own7M (g := W5.heap.size) ho4 az.lt (.int .i64 1) (.string B) (.int .i64 0) (.int .i64 0) (.string ⟨#[]⟩) (.int .i64 0) (.slice a4 m4 c4)) zga) (And.intro (gr7M (a := W5) (show Gr W5 wb from (by repeat (with_reducible first | assumption | exact Gr.refl _ | apply Gr.alloc | apply Gr.drewN | apply Gr.drew | apply Gr.iter | (refine Gr.setCell ?_ (by simp) _) | (refine Gr.trans ?_ (by assumption))))) (Nat.le_refl W5.heap.size) (.int .i64 1) (.string B) (.int .i64 0) (.int .i64 0) (.string ⟨#[]⟩) (.int .i64 0) (.slice a4 m4 c4)) (Nat.le_refl W5.heap.size)))
        clear bz bzc bzf bzz ho4 hgb
        generalize hWZ : ((((((wb.setCell ⟨W5.heap.size, 0, none⟩ (.int .i64 1)).setCell ⟨W5.heap.size, 1, none⟩ (.string B)).setCell ⟨W5.heap.size, 2, none⟩ (.int .i64 0)).setCell ⟨W5.heap.size, 3, none⟩ (.int .i64 0)).setCell ⟨W5.heap.size, 4, none⟩ (.string ⟨#[]⟩)).setCell ⟨W5.heap.size, 5, none⟩ (.int .i64 0)).setCell ⟨W5.heap.size, 6, none⟩ (.slice a4 m4 c4) = WZ at F ⊢
        clear hWZ zgb az hga zga
        obtain ⟨P, hPP⟩ : ∃ P, W5.heap.size = P := ⟨_, rfl⟩
        have F2 := And.intro (show Blk WZ P 65 _ from hPP ▸ F.1) (And.intro F.2.1 (And.intro F.2.2.1 (show W5.heap.size ≤ P from Nat.le_of_eq hPP)))
        clear F
        rw [hPP]
        clear hPP
        revert F2; revert P; revert WZ; revert a4 m4 c4
        exact cont.out
    case t =>
      intro a6 m6 c6 W7 Q F
      obtain ⟨BQ, O6, g7, hQ⟩ := F
      have gW3 : Gr W w3 := (by repeat (with_reducible first | assumption | exact Gr.refl _ | apply Gr.alloc | apply Gr.drewN | apply Gr.drew | apply Gr.iter | (refine Gr.setCell ?_ (by simp) _) | (refine Gr.trans ?_ (by assumption))))
      have U1 := B1.gr (Gr.trans gW3 (Gr.trans g5 g7))
      have U2 := B2.gr (Gr.trans gW3 (Gr.trans g5 g7))
      have UP := BP.gr g7
      have up := UP.cell; have uzp := UP.lt
      have uq := BQ.cell; have uzq := BQ.lt
      have u1 := U1.cell; have uf1 := U1.frozen; have uz1 := U1.lt
      have u2 := U2.cell; have uf2 := U2.frozen; have uz2 := U2.lt
      have hz0 : w.heap.size + 1 + 1 < W5.heap.size := by have h1 := (B2.gr gW3).lt; have := g5.size; omega
      have hz1 : w.heap.size + 1 + 1 < w3.heap.size := (B2.gr gW3).lt
      have np1 : ¬ w.heap.size + 1 = P := by omega
      have np2 : ¬ w.heap.size + 1 + 1 = P := by omega
      have nq1 : ¬ w.heap.size + 1 = Q := by omega
      have nq2 : ¬ w.heap.size + 1 + 1 = Q := by omega
      have HO := Lib.hid (And.intro O4 O6); clear O4 O6
      clear f6 g6
      go_wp2
      go_region
      all_goals go_wp2
      have T1 := ((U1.set7M (.int .i64 1) (.string A) (.int .i64 0) (.int .i64 0) (.string ⟨#[]⟩) (.int .i64 0) (.slice a4 m4 c4)).far7M (p := w.heap.size + 1 + 1) (by omega) (.int .i64 1) (.string B) (.int .i64 0) (.int .i64 0) (.string ⟨#[]⟩) (.int .i64 0) (.slice a6 m6 c6)).gr ((Gr.refl _).drew)
      have T2 := ((U2.far7M (p := w.heap.size + 1) (by omega) (.int .i64 1) (.string A) (.int .i64 0) (.int .i64 0) (.string ⟨#[]⟩) (.int .i64 0) (.slice a4 m4 c4)).set7M (.int .i64 1) (.string B) (.int .i64 0) (.int .i64 0) (.string ⟨#[]⟩) (.int .i64 0) (.slice a6 m6 c6)).gr ((Gr.refl _).drew)
      have y1 := T1.cell
      have y2 := T2.cell
      have gG : Gr w W7 := Gr.trans (show Gr w w3 from Gr.trans hg gW3) (Gr.trans g5 g7)
      refine bodyPost_ret (v := .tuple #[.agg #[.int .i64 1, .string A, .int .i64 0, .int .i64 0, .string ⟨#[]⟩, .int .i64 0, .slice a4 m4 c4], .agg #[.int .i64 1, .string B, .int .i64 0, .int .i64 0, .string ⟨#[]⟩, .int .i64 0, .slice a6 m6 c6], .int .i64 0]) (by simp [results, Tryz.results113, go_sem, y1, y2]; done) rfl ⟨.slice a4 m4 c4, .slice a6 m6 c6, by rw [HAB.out.1, HAB.out.2]; rfl, ?_, ?_, ?_⟩
      · refine OwnL.gr ?_ (fun _ _ h => h.any) ((Gr.refl _).drew)
        exact OwnL.base_le (own7M (own7M (OwnL.gr HO.out.1 (fun _ _ h => h.any) g7) (by omega) _ _ _ _ _ _ _) (by omega) _ _ _ _ _ _ _) (by omega)
      · refine OwnL.gr ?_ (fun _ _ h => h.any) ((Gr.refl _).drew)
        exact OwnL.base_le (own7M (own7M HO.out.2 (by omega) _ _ _ _ _ _ _) (by omega) _ _ _ _ _ _ _) (by omega)
      · refine Gr.drew ?_
        exact gr7M (gr7M gG (by omega) _ _ _ _ _ _ _) (by omega) _ _ _ _ _ _ _

end Ve
