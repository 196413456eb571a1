/- Walks: the reference's Cut of a text. -/
import Derived.Test.YtapolkhdikdjbaaGreatDoorRG
set_option linter.all false
namespace Ve
open Go Go.RowKit Go.Proofs

theorem set7_one {w : World} {g : Nat} {x0 x1 x2 x3 x4 x5 x6 : Value} (h : Blk w g 46 #[x0, x1, x2, x3, x4, x5, x6]) (u0 u1 u2 u3 u4 u5 u6 : Value) : Tn (fun b t => b = g ∧ t = some 46) w (Ve.set7 w g u0 u1 u2 u3 u4 u5 u6) := by
  unfold Ve.set7
  have h0 := h.set 0 u0
  have h1 := h0.set 1 u1
  have h2 := h1.set 2 u2
  have h3 := h2.set 3 u3
  have h4 := h3.set 4 u4
  have h5 := h4.set 5 u5
  exact ((((((Tn.set h ⟨rfl, rfl⟩ 0 u0).trans (Tn.set h0 ⟨rfl, rfl⟩ 1 u1)).trans (Tn.set h1 ⟨rfl, rfl⟩ 2 u2)).trans (Tn.set h2 ⟨rfl, rfl⟩ 3 u3)).trans (Tn.set h3 ⟨rfl, rfl⟩ 4 u4)).trans (Tn.set h4 ⟨rfl, rfl⟩ 5 u5)).trans (Tn.set h5 ⟨rfl, rfl⟩ 6 u6)
theorem set7_tn {w : World} {g g' : Nat} {x0 x1 x2 x3 x4 x5 x6 y0 y1 y2 y3 y4 y5 y6 u0 u1 u2 u3 u4 u5 u6 v0 v1 v2 v3 v4 v5 v6 : Value} (h : Blk w g 46 #[x0, x1, x2, x3, x4, x5, x6]) (k : Blk w g' 46 #[y0, y1, y2, y3, y4, y5, y6]) (hne : g' ≠ g) :
    Tn (fun _ t => t = some 46) w (Ve.set7 (Ve.set7 w g u0 u1 u2 u3 u4 u5 u6) g' v0 v1 v2 v3 v4 v5 v6) :=
  ((set7_one h u0 u1 u2 u3 u4 u5 u6).mono fun _ _ h => h.2).trans ((set7_one (k.far7 hne u0 u1 u2 u3 u4 u5 u6) v0 v1 v2 v3 v4 v5 v6).mono fun _ _ h => h.2)
set_option maxRecDepth 20000 in
set_option maxHeartbeats 8000000 in
theorem cut07_text (t : ByteArray) (va vb : Int) (vt : ByteArray) (c : Int) (sl : Value) (l : List Attr) (w : World) (hl : RdAttrs w sl l) (ht : szS t) (m : Nat) (hv : brk t = t.size) (h1 : 1 ≤ m) (h2 : m < (runes t).length) (hR2 : (runes t).length ≤ 1099511627776) :
    Calls Tryz.prog 93 #[.agg #[.int .i64 1, .string t, .int .i64 va, .int .i64 vb, .string vt, .int .i64 c, sl], .int .i64 m] w fun e w' => ∃ s1 s2,
      e = .returned (.tuple #[opV ⟨1, textL ((runes t).take m), ⟨va, vb, vt⟩, c, l⟩ s1, opV ⟨1, textL ((runes t).drop m), ⟨va, vb, vt⟩, c, l⟩ s2, .bool true]) ∧ OwnL AttrR 4 w.heap.size 83 w' s1 l ∧ OwnL AttrR 4 w.heap.size 83 w' s2 l ∧ Gr w w' := by
  obtain ⟨a, cap, rfl, -, -, hb⟩ := hl.slice
  obtain ⟨R, hR⟩ : ∃ R : Int, rlen ⟨1, t, ⟨va, vb, vt⟩, c, l⟩ = R := ⟨_, rfl⟩
  have hlen : ((runes t).length : Int) = R := by have := hR; simpa [rlen] using this
  have HN := Lib.hid hR; clear hR
  have hne : ((m : Int) == R) = false := by simp; omega
  have hm2 : m ≤ (runes t).length := by omega
  have HSC := Lib.hid (text_of hv).2
  obtain ⟨z1, z2⟩ := text_take_sz hv ht m
  have Hz := Lib.hid (And.intro z1 z2); clear z1 z2
  have hrne : runes t ≠ [] := fun e => by rw [e] at h2; simp at h2
  go_enter Tryz.func93, Tryz.ntmps93
  go_wp2_with (go_at_call 97; obtain ⟨W, hW, B0, B1, B2, hg⟩ := blk3 w 46 #[.int .i64 1, .string t, .int .i64 va, .int .i64 vb, .string vt, .int .i64 c, .slice a l.length cap] 46 #[.int .i64 0, .string ⟨#[]⟩, .int .i64 0, .int .i64 0, .string ⟨#[]⟩, .int .i64 0, .slice none 0 0] 46 #[.int .i64 0, .string ⟨#[]⟩, .int .i64 0, .int .i64 0, .string ⟨#[]⟩, .int .i64 0, .slice none 0 0]; rw [hW]; have HW := Lib.hid hW; clear hW; refine (len07_any _ _ _ _ _ _ _ l _ (RdAttrs.gr hl (by repeat (with_reducible first | assumption | exact Gr.refl _ | apply Gr.alloc | apply Gr.drewN | apply Gr.drew | apply Gr.iter | (refine Gr.setCell ?_ (by simp) _) | (refine Gr.trans ?_ (by assumption))))) ht (.inl rfl)).mono ?_; rw [HN.out]; rintro e w1 ⟨rfl, hg1⟩; have q0 := (B0.gr (w' := w1) (by repeat (with_reducible first | assumption | exact Gr.refl _ | apply Gr.alloc | apply Gr.drewN | apply Gr.drew | apply Gr.iter | (refine Gr.setCell ?_ (by simp) _) | (refine Gr.trans ?_ (by assumption))))).cell; have z0 := (B0.gr (w' := w1) (by repeat (with_reducible first | assumption | exact Gr.refl _ | apply Gr.alloc | apply Gr.drewN | apply Gr.drew | apply Gr.iter | (refine Gr.setCell ?_ (by simp) _) | (refine Gr.trans ?_ (by assumption))))).lt)
  apply shared
  case h =>
    intro cont
    go_region
    · go_simp
      obtain ⟨W3, hW3, C1, C2, hg3⟩ := blk2d w1 46 #[.int .i64 1, .string t, .int .i64 va, .int .i64 vb, .string vt, .int .i64 c, .slice a l.length cap] 46 #[.int .i64 1, .string t, .int .i64 va, .int .i64 vb, .string vt, .int .i64 c, .slice a l.length cap]
      rw [hW3]
      clear hW3
      generalize hQ : w1.heap.size + 1 = Q at C2 ⊢
      generalize hP : w1.heap.size = P at C1 ⊢
      have F : Blk W3 P 46 #[.int .i64 1, .string t, .int .i64 va, .int .i64 vb, .string vt, .int .i64 c, .slice a l.length cap] ∧ Blk W3 Q 46 #[.int .i64 1, .string t, .int .i64 va, .int .i64 vb, .string vt, .int .i64 c, .slice a l.length cap] ∧ Gr w1 W3 ∧ w1.heap.size ≤ P ∧ w1.heap.size ≤ Q ∧ P ≠ Q := ⟨C1, C2, hg3, by omega, by omega, by omega⟩
      clear C1 C2 hg3 hP hQ
      revert F; revert Q; revert P; revert W3
      exact cont.out
    · go_simp
      obtain ⟨W3, hW3, C1, C2, hg3⟩ := blk2d w1 46 #[.int .i64 1, .string t, .int .i64 va, .int .i64 vb, .string vt, .int .i64 c, .slice a l.length cap] 46 #[.int .i64 1, .string t, .int .i64 va, .int .i64 vb, .string vt, .int .i64 c, .slice a l.length cap]
      rw [hW3]
      clear hW3
      generalize hP : w1.heap.size + 1 = P at C2 ⊢
      generalize hQ : w1.heap.size = Q at C1 ⊢
      have F : Blk W3 P 46 #[.int .i64 1, .string t, .int .i64 va, .int .i64 vb, .string vt, .int .i64 c, .slice a l.length cap] ∧ Blk W3 Q 46 #[.int .i64 1, .string t, .int .i64 va, .int .i64 vb, .string vt, .int .i64 c, .slice a l.length cap] ∧ Gr w1 W3 ∧ w1.heap.size ≤ P ∧ w1.heap.size ≤ Q ∧ P ≠ Q := ⟨C2, C1, hg3, by omega, by omega, by omega⟩
      clear C1 C2 hg3 hP hQ
      revert F; revert Q; revert P; revert W3
      exact cont.out
  case t =>
    intro W3 P Q F
    obtain ⟨C1, C2, hg3, hP, hQ, hPQ⟩ := F
    have sP := C1.lt
    obtain ⟨v4, w4, hr4, ho4, hg4, -⟩ := app_attr (W3.alloc (.cells #[] 83)) W3.heap.size 44 (OwnL.made W3 AttrR 4 W3.heap.size 83 (Nat.le_refl _)) (RdAttrs.gr (w := w) hl (by repeat (with_reducible first | assumption | exact Gr.refl _ | apply Gr.alloc | apply Gr.drewN | apply Gr.drew | apply Gr.iter | (refine Gr.setCell ?_ (by simp) _) | (refine Gr.trans ?_ (by assumption))))) (by simpa using hb) (by simp); rw [List.nil_append] at ho4; have g4 : Gr W3 w4 := ((Gr.refl W3).alloc _).grown hg4 (by simp [Value.ownBlock]); clear hg4; obtain ⟨a4, n4, c4, rfl, -⟩ := ho4.sl; have s0 := B0.lt; have s2 := B2.lt; have s1 : W.heap.size ≤ w1.heap.size := Gr.size hg1; have s3 := C2.lt; have s4 := g4.size; have nP : w.heap.size ≠ P := (by omega); have nP' : P ≠ w.heap.size := (by omega); have nPQ : P ≠ Q := (by omega); have nQP : Q ≠ P := (by omega); have nQ : w.heap.size ≠ Q := (by omega); have nQ' : Q ≠ w.heap.size := (by omega); have G5 : Gr w (w4.setCell ⟨P, 6, none⟩ (.slice a4 n4 c4)) := Gr.setCell (show Gr w w4 from (by repeat (with_reducible first | assumption | exact Gr.refl _ | apply Gr.alloc | apply Gr.drewN | apply Gr.drew | apply Gr.iter | (refine Gr.setCell ?_ (by simp) _) | (refine Gr.trans ?_ (by assumption))))) (show w.heap.size ≤ P by omega) _; have e5 : (w4.setCell ⟨P, 6, none⟩ (.slice a4 n4 c4)).heap.size = w4.heap.size := (by simp [World.setCell]); obtain ⟨v6, w6, hr6, ho6, hg6, -⟩ := app_attr ((w4.setCell ⟨P, 6, none⟩ (.slice a4 n4 c4)).alloc (.cells #[] 83)) w4.heap.size 44 (OwnL.made (w4.setCell ⟨P, 6, none⟩ (.slice a4 n4 c4)) AttrR 4 w4.heap.size 83 (by omega)) (RdAttrs.gr (w := w) hl (G5.alloc _)) (by simpa using hb) (by simp); rw [List.nil_append] at ho6; have g6 : Gr (w4.setCell ⟨P, 6, none⟩ (.slice a4 n4 c4)) w6 := ((Gr.refl _).alloc _).grown hg6 (by simp [Value.ownBlock, e5]); clear hg6; rw [e5] at hr6; obtain ⟨a6, n6, c6, rfl, -⟩ := ho6.sl; have K0 := (B0.gr (w' := w4) (by repeat (with_reducible first | assumption | exact Gr.refl _ | apply Gr.alloc | apply Gr.drewN | apply Gr.drew | apply Gr.iter | (refine Gr.setCell ?_ (by simp) _) | (refine Gr.trans ?_ (by assumption))))); have K1 := (B1.gr (w' := w4) (by repeat (with_reducible first | assumption | exact Gr.refl _ | apply Gr.alloc | apply Gr.drewN | apply Gr.drew | apply Gr.iter | (refine Gr.setCell ?_ (by simp) _) | (refine Gr.trans ?_ (by assumption))))); have K2 := (B2.gr (w' := w4) (by repeat (with_reducible first | assumption | exact Gr.refl _ | apply Gr.alloc | apply Gr.drewN | apply Gr.drew | apply Gr.iter | (refine Gr.setCell ?_ (by simp) _) | (refine Gr.trans ?_ (by assumption))))); have KP := (C1.gr (w' := w4) (by repeat (with_reducible first | assumption | exact Gr.refl _ | apply Gr.alloc | apply Gr.drewN | apply Gr.drew | apply Gr.iter | (refine Gr.setCell ?_ (by simp) _) | (refine Gr.trans ?_ (by assumption))))); have KQ := (C2.gr (w' := w4) (by repeat (with_reducible first | assumption | exact Gr.refl _ | apply Gr.alloc | apply Gr.drewN | apply Gr.drew | apply Gr.iter | (refine Gr.setCell ?_ (by simp) _) | (refine Gr.trans ?_ (by assumption))))); have L0 := (K0.far (p := ⟨P, 6, none⟩) nP (.slice a4 n4 c4)).gr g6; have L1 := (K1.far (p := ⟨P, 6, none⟩) (show w.heap.size + 1 ≠ P by omega) (.slice a4 n4 c4)).gr g6; have L2 := (K2.far (p := ⟨P, 6, none⟩) (show w.heap.size + 1 + 1 ≠ P by omega) (.slice a4 n4 c4)).gr g6; have LQ := (KQ.far (p := ⟨P, 6, none⟩) nQP (.slice a4 n4 c4)).gr g6; have LP := (KP.set 6 (.slice a4 n4 c4)).gr g6; simp at LP; have k3 := (B0.gr (w' := W3) (by repeat (with_reducible first | assumption | exact Gr.refl _ | apply Gr.alloc | apply Gr.drewN | apply Gr.drew | apply Gr.iter | (refine Gr.setCell ?_ (by simp) _) | (refine Gr.trans ?_ (by assumption))))).cell; have y3 := (B0.gr (w' := W3) (by repeat (with_reducible first | assumption | exact Gr.refl _ | apply Gr.alloc | apply Gr.drewN | apply Gr.drew | apply Gr.iter | (refine Gr.setCell ?_ (by simp) _) | (refine Gr.trans ?_ (by assumption))))).lt; have k4 := K0.cell; have y4 := K0.lt; have p4 := KP.cell; have pf4 := KP.frozen; have pz4 := KP.lt; have k6 := L0.cell; have p6 := LP.cell; have pf6 := LP.frozen; have pz6 := LP.lt; have r6 := LQ.cell; have rf6 := LQ.frozen; have rz6 := LQ.lt; have m1 := L1.cell; have mf1 := L1.frozen; have mz1 := L1.lt; have m2 := L2.cell; have mf2 := L2.frozen; have mz2 := L2.lt; have HR4 := Lib.hid hr4; have HR6 := Lib.hid hr6; have HO4 := Lib.hid ho4; have HO6 := Lib.hid ho6; have HG5 := Lib.hid (G5.trans g6); have HG6 := Lib.hid g6; clear hr4 hr6 ho4 ho6 K0 K1 K2 KP KQ g6 G5
    go_wp2_with (first
      | (at_builtin; refine wpList_run rfl (.tmp 18) (.tmp 20) 44 rfl rfl rfl HR4.out ?_)
      | (at_builtin; refine wpList_run rfl (.tmp 23) (.tmp 25) 44 rfl rfl rfl HR6.out ?_)
      | (go_at_call 141; refine (rlist_any t _ ht).mono ?_; rintro e w8 ⟨v8, rfl, ho8, hg8⟩; obtain ⟨b8, c8, rfl, hc8, hm8⟩ := ho8.shape hrne; obtain ⟨N, hN⟩ : ∃ N, (runes t).length = N := ⟨_, rfl⟩; (try simp only [hN] at hlen); (try simp only [hN] at hm2); (try simp only [hN] at hc8); (try simp only [hN] at ho8); (try simp only [hN] at h2); (try simp only [hN] at hR2); simp only [hN]; have J1 := (L1.far (p := ⟨Q, 6, none⟩) (show w.heap.size + 1 ≠ Q by omega) (.slice a6 n6 c6)).gr hg8; have J2 := (L2.far (p := ⟨Q, 6, none⟩) (show w.heap.size + 1 + 1 ≠ Q by omega) (.slice a6 n6 c6)).gr hg8; have JP := (LP.far (p := ⟨Q, 6, none⟩) nPQ (.slice a6 n6 c6)).gr hg8; have JQ := (LQ.set 6 (.slice a6 n6 c6)).gr hg8; simp at JQ))
    have O1 : OwnL AttrR 4 w.heap.size 83 w8 (.slice a4 n4 c4) l := OwnL.base_le (base := W3.heap.size) (OwnL.gr (OwnAL.setCell (OwnL.gr (OwnAL.setCell HO4.out (by dsimp only; omega) _) (fun _ _ h => h.any) HG6.out) (by dsimp only; omega) _) (fun _ _ h => h.any) hg8) (by omega)
    have O2 : OwnL AttrR 4 w.heap.size 83 w8 (.slice a6 n6 c6) l := OwnL.base_le (base := w4.heap.size) (OwnL.gr (OwnAL.setCell HO6.out (by dsimp only; omega) _) (fun _ _ h => h.any) hg8) (by omega)
    have G8 : Gr w w8 := Gr.trans (Gr.setCell HG5.out (p := ⟨Q, 6, none⟩) (by dsimp only; omega) _) hg8
    clear HO4 HO6 HG5 HG6 HR4 HR6 L0 L1 L2 LP LQ k3 y3 k4 y4 p4 pf4 pz4 k6 p6 pf6 pz6 r6 rf6 rz6 m1 mf1 mz1 m2 mf2 mz2 q0 e5
    obtain ⟨A, hA⟩ : ∃ A, textL ((runes t).take m) = A := ⟨_, rfl⟩
    obtain ⟨B, hB⟩ : ∃ B, textL ((runes t).drop m) = B := ⟨_, rfl⟩
    have hrd := OwnL.rd ho8 (by omega)
    have hT : RdList RuneR 1 w8 (.slice (some ⟨b8, 0, none⟩) m c8) ((runes t).take m) := RdList.take hrd m (by omega)
    have hD : RdList RuneR 1 w8 (.slice (some ⟨b8, m, none⟩) (N - m) (c8 - m)) ((runes t).drop m) := by simpa using RdList.drop hrd m (by omega)
    have HT := Lib.hid hT; have HD := Lib.hid hD
    have HAB := Lib.hid (And.intro hA hB); clear hA hB hT hD hrd ho8
    clear C1 C2 hg3 B0 B1 B2 HW
    clear hg1 hg hl
    have HJ := Lib.hid (And.intro J1 (And.intro J2 (And.intro O1 (And.intro O2 G8)))); clear J1 J2 O1 O2 G8
    apply shared
    case h =>
      intro cont
      go_region_with (first
        | (go_at_call 151; have _h := hga; refine (rtext01_any ((runes t).drop m) (.slice (some ⟨b8, m, none⟩) (N - m) (c8 - m)) _ (RdList.gr (w := w8) (w' := wa) HD.out (fun _ _ h => h) (by repeat (with_reducible first | assumption | exact Gr.refl _ | apply Gr.alloc | apply Gr.drewN | apply Gr.drew | apply Gr.iter | (refine Gr.setCell ?_ (by simp) _) | (refine Gr.trans ?_ (by assumption))))) (fun r hr => HSC.out r (List.mem_of_mem_drop hr)) Hz.out.2).mono ?_; rw [HAB.out.2]; rintro e wb ⟨rfl, hgb⟩; have bp := JP.gr (w' := wb) (by repeat (with_reducible first | assumption | exact Gr.refl _ | apply Gr.alloc | apply Gr.drewN | apply Gr.drew | apply Gr.iter | (refine Gr.setCell ?_ (by simp) _) | (refine Gr.trans ?_ (by assumption)))); have bpc := bp.cell; have bpf := bp.frozen; have bpz := bp.lt; have bq := JQ.gr (w' := wb) (by repeat (with_reducible first | assumption | exact Gr.refl _ | apply Gr.alloc | apply Gr.drewN | apply Gr.drew | apply Gr.iter | (refine Gr.setCell ?_ (by simp) _) | (refine Gr.trans ?_ (by assumption)))); have bqc := bq.cell; have bqf := bq.frozen; have bqz := bq.lt)
        | (go_at_call 151; refine (rtext01_any ((runes t).take m) (.slice (some ⟨b8, 0, none⟩) m c8) _ (RdList.gr (w := w8) (w' := w8.drew) HT.out (fun _ _ h => h) (by repeat (with_reducible first | assumption | exact Gr.refl _ | apply Gr.alloc | apply Gr.drewN | apply Gr.drew | apply Gr.iter | (refine Gr.setCell ?_ (by simp) _) | (refine Gr.trans ?_ (by assumption))))) (fun r hr => HSC.out r (List.mem_of_mem_take hr)) Hz.out.1).mono ?_; rw [HAB.out.1]; rintro e wa ⟨rfl, hga⟩; have ap := JP.gr (w' := wa) (by repeat (with_reducible first | assumption | exact Gr.refl _ | apply Gr.alloc | apply Gr.drewN | apply Gr.drew | apply Gr.iter | (refine Gr.setCell ?_ (by simp) _) | (refine Gr.trans ?_ (by assumption)))); have apc := ap.cell; have apf := ap.frozen; have apz := ap.lt; have aq := JQ.gr (w' := wa) (by repeat (with_reducible first | assumption | exact Gr.refl _ | apply Gr.alloc | apply Gr.drewN | apply Gr.drew | apply Gr.iter | (refine Gr.setCell ?_ (by simp) _) | (refine Gr.trans ?_ (by assumption)))); have aqc := aq.cell; have aqf := aq.frozen; have aqz := aq.lt))
      all_goals
        go_simp
        have F := And.intro bp (And.intro bq (show Gr w8 wb from (by repeat (with_reducible first | assumption | exact Gr.refl _ | apply Gr.alloc | apply Gr.drewN | apply Gr.drew | apply Gr.iter | (refine Gr.setCell ?_ (by simp) _) | (refine Gr.trans ?_ (by assumption))))))
        clear bpc bpf bpz bqc bqf bqz bp bq hgb apc apf apz ap aqc aqf aqz aq
        revert F
        revert wb
        exact cont.out
    case t =>
      intro wb F
      obtain ⟨bp, bq, hgb⟩ := F
      obtain ⟨J1, J2, O1, O2, G8⟩ := HJ.out
      have UP := (bp.set 1 (.string A)).far (p := ⟨Q, 1, none⟩) (show P ≠ Q from hPQ) (.string B)
      have UQ := (bq.far (p := ⟨P, 1, none⟩) (show Q ≠ P from fun e => hPQ e.symm) (.string A)).set 1 (.string B)
      have U1 := ((J1.gr hgb).far (p := ⟨P, 1, none⟩) (show w.heap.size + 1 ≠ P by omega) (.string A)).far (p := ⟨Q, 1, none⟩) (show w.heap.size + 1 ≠ Q by omega) (.string B)
      have U2 := ((J2.gr hgb).far (p := ⟨P, 1, none⟩) (show w.heap.size + 1 + 1 ≠ P by omega) (.string A)).far (p := ⟨Q, 1, none⟩) (show w.heap.size + 1 + 1 ≠ Q by omega) (.string B)
      have T1 : Tn (fun b t => (b = P ∨ b = Q) ∧ t = some 46) wb ((wb.setCell ⟨P, 1, none⟩ (.string A)).setCell ⟨Q, 1, none⟩ (.string B)) := (Tn.set bp ⟨.inl rfl, rfl⟩ 1 (.string A)).trans (Tn.set (bq.far (p := ⟨P, 1, none⟩) (show Q ≠ P from fun e => hPQ e.symm) (.string A)) ⟨.inr rfl, rfl⟩ 1 (.string B))
      have V1 := OwnL.tn (w := wb) (OwnL.gr (w := w8) O1 (fun _ _ h => h.any) hgb) (fun _ _ h => h.any) T1 (fun g _ h => by have := h.2; injection this with this; exact absurd this (by decide))
      have V2 := OwnL.tn (w := wb) (OwnL.gr (w := w8) O2 (fun _ _ h => h.any) hgb) (fun _ _ h => h.any) T1 (fun g _ h => by have := h.2; injection this with this; exact absurd this (by decide))
      have VG : Gr w ((wb.setCell ⟨P, 1, none⟩ (.string A)).setCell ⟨Q, 1, none⟩ (.string B)) := Gr.tn (Gr.trans G8 hgb) T1 (fun b t h => by have := h.1; omega)
      simp at UP UQ
      obtain ⟨wf, hwf⟩ : ∃ wf, (wb.setCell ⟨P, 1, none⟩ (.string A)).setCell ⟨Q, 1, none⟩ (.string B) = wf := ⟨_, rfl⟩
      rw [hwf] at UP UQ U1 U2 V1 V2 VG ⊢
      clear hwf T1 bp bq hgb J1 J2 O1 O2 G8 HJ JP JQ
      have u1 := U1.cell; have uf1 := U1.frozen; have uz1 := U1.lt
      have u2 := U2.cell; have uf2 := U2.frozen; have uz2 := U2.lt
      have up := UP.cell; have uzp := UP.lt
      have uq := UQ.cell; have uzq := UQ.lt
      have HV := Lib.hid (And.intro V1 (And.intro V2 VG)); clear V1 V2 VG
      go_wp2
      go_region
      all_goals go_wp2
      have T1 := ((U1.set7 (.int .i64 1) (.string A) (.int .i64 va) (.int .i64 vb) (.string vt) (.int .i64 c) (.slice a4 n4 c4)).far7 (p := w.heap.size + 1 + 1) (by omega) (.int .i64 1) (.string B) (.int .i64 va) (.int .i64 vb) (.string vt) (.int .i64 c) (.slice a6 n6 c6)).gr ((Gr.refl _).drew)
      have T2 := ((U2.far7 (p := w.heap.size + 1) (by omega) (.int .i64 1) (.string A) (.int .i64 va) (.int .i64 vb) (.string vt) (.int .i64 c) (.slice a4 n4 c4)).set7 (.int .i64 1) (.string B) (.int .i64 va) (.int .i64 vb) (.string vt) (.int .i64 c) (.slice a6 n6 c6)).gr ((Gr.refl _).drew)
      have y1 := T1.cell
      have y2 := T2.cell
      unfold Ve.set7 at y1 y2
      obtain ⟨V1, V2, VG⟩ := HV.out
      refine bodyPost_ret (v := .tuple #[.agg #[.int .i64 1, .string A, .int .i64 va, .int .i64 vb, .string vt, .int .i64 c, .slice a4 n4 c4], .agg #[.int .i64 1, .string B, .int .i64 va, .int .i64 vb, .string vt, .int .i64 c, .slice a6 n6 c6], .bool true]) (by simp [results, Tryz.results93, go_sem, y1, y2]; done) rfl ⟨.slice a4 n4 c4, .slice a6 n6 c6, by rw [HAB.out.1, HAB.out.2]; rfl, ?_, ?_, ?_⟩
      · refine OwnL.gr ?_ (fun _ _ h => h.any) ((Gr.refl _).drew)
        refine OwnL.tn (w := wf) V1 (fun _ _ h => h.any) (Wr := fun b t => t = some 46) ?_ (fun g _ h => by injection h with h; exact absurd h (by decide))
        exact set7_tn U1 U2 (by omega)
      · refine OwnL.gr ?_ (fun _ _ h => h.any) ((Gr.refl _).drew)
        refine OwnL.tn (w := wf) V2 (fun _ _ h => h.any) (Wr := fun b t => t = some 46) ?_ (fun g _ h => by injection h with h; exact absurd h (by decide))
        exact set7_tn U1 U2 (by omega)
      · refine Gr.drew ?_
        iterate 14 (refine Gr.setCell ?_ (by dsimp only; omega) _)
        exact VG
theorem cut07_some (k : Int) (t : ByteArray) (va vb : Int) (vt : ByteArray) (c : Int) (sl : Value) (l : List Attr) (w : World) (hl : RdAttrs w sl l) (ht : szS t) (hk : k = 1 ∨ k = 2 ∨ k = 3 ∨ k = 4) (n : Int) (hv : brk t = t.size) (R : Int) (hR : rlen ⟨k, t, ⟨va, vb, vt⟩, c, l⟩ = R) (h1 : 1 ≤ n) (h2 : n < R) (hc : k = 1 ∨ c = R) (hR2 : R ≤ 1099511627776) :
    Calls Tryz.prog 93 #[.agg #[.int .i64 k, .string t, .int .i64 va, .int .i64 vb, .string vt, .int .i64 c, sl], .int .i64 n] w fun e w' => ∃ s1 s2,
      e = .returned (.tuple #[opV (cutO ⟨k, t, ⟨va, vb, vt⟩, c, l⟩ n).1 s1, opV (cutO ⟨k, t, ⟨va, vb, vt⟩, c, l⟩ n).2 s2, .bool true]) ∧ OwnL AttrR 4 w.heap.size 83 w' s1 l ∧ OwnL AttrR 4 w.heap.size 83 w' s2 l ∧ Gr w w' := by
  by_cases hk1 : k = 1
  · subst hk1
    obtain ⟨m, rfl⟩ : ∃ m : Nat, n = m := ⟨n.toNat, by omega⟩
    have hlen : ((runes t).length : Int) = R := by have := hR; simpa [rlen] using this
    refine (cut07_text t va vb vt c sl l w hl ht m hv (by omega) (by omega) (by omega)).mono ?_
    rintro e w' ⟨s1, s2, rfl, h⟩
    exact ⟨s1, s2, by simp [cutO], h⟩
  · exact cut07_count k t va vb vt c sl l w hl ht hk n hv R hR h1 h2 hc hR2 hk1
/-- The operations of a cut piece. -/
theorem cut_op {p : Piece} {n : Int} (h : ∀ a t v, p ≠ .emb a t v) : (cutO p.op n).1 = (cutP p n).1.op ∧ (cutO p.op n).2 = (cutP p n).2.op := by
  cases p with
  | ins a t m => simp [cutO, cutP, Piece.op]
  | emb a t v => exact absurd rfl (h a t v)
  | ret a m => simp [cutO, cutP, Piece.op]
  | del m => simp [cutO, cutP, Piece.op]
end Ve
