/- Walks of the reference of layer 6: Of. -/
import Derived.Test.YtapolkhdikdjbaaGreatDoorRA
import Derived.Test.YtapolkhdikdjbaaGreatDoorL0
set_option linter.all false
namespace Ve
open Go Go.RowKit Go.Proofs

theorem put_sums {l : List Op} : ∀ {s : Bld}, (∀ o ∈ l, checkOp o = 0) → (putAll s l).base = s.base + sumB l ∧ (putAll s l).result = s.result + sumR l := by
  induction l with
  | nil => intro s _; simp [putAll, sumB, sumR]
  | cons o l ih =>
    intro s h
    have ho := h o (by simp)
    obtain ⟨e1, e2⟩ := put_base s o
    obtain ⟨i1, i2⟩ := ih (s := s.put (toPiece o)) fun x hx => h x (by simp [hx])
    rw [piece_b ho] at e1
    rw [piece_r ho] at e2
    simp only [sumB, sumR]
    constructor
    · rw [show (putAll s (o :: l)).base = (putAll (s.put (toPiece o)) l).base from rfl, i1, e1]; omega
    · rw [show (putAll s (o :: l)).result = (putAll (s.put (toPiece o)) l).result from rfl, i2, e2]; omega
theorem count_base {o : Op} (h : checkOp o = 0) : o.count = baseO o := by
  have hk := ok_kind h
  have h1 := ok_only h
  unfold hasOnly at h1
  unfold baseO
  rcases hk with k | k | k | k <;> simp [k] at h1 ⊢
  · exact h1.1
  · exact h1
  · simp [rlen, k]
  · simp [rlen, k]
theorem csum_base {l : List Op} (h : ∀ o ∈ l, checkOp o = 0) : csum l = sumB l ∧ ∀ o ∈ l, 0 ≤ o.count := by
  induction l with
  | nil => exact ⟨rfl, by simp⟩
  | cons o l ih =>
    obtain ⟨i1, i2⟩ := ih fun x hx => h x (by simp [hx])
    have ho := h o (by simp)
    have e := count_base ho
    have hl := ok_len ho
    have h0 : 0 ≤ o.count := by rw [e]; unfold baseO; split <;> omega
    refine ⟨?_, fun x hx => ?_⟩
    · have : csum (o :: l) = o.count + csum l := by simp [csum]
      rw [this, e, i1]; rfl
    · rcases List.mem_cons.1 hx with rfl | hx
      · exact h0
      · exact i2 x hx
theorem push_three {s : Bld} {o : Op} (h : checkOp o = 0) : s.push o = if s.base + baseO o ≤ 1099511627776 ∧ s.result + resO o ≤ 1099511627776 then (s.put (toPiece o), 0) else (s, 11) := by
  unfold Bld.push Bld.fits
  rw [piece_b h, piece_r h]
  simp [h]
  by_cases c : s.base + baseO o ≤ 1099511627776 ∧ s.result + resO o ≤ 1099511627776
  · rw [if_pos c, if_neg (by omega)]
  · rw [if_neg c, if_pos (by omega)]
theorem all_sums {l : List Op} {s : Bld} (h : pushAll l = (s, 0, 0)) : (∀ o ∈ l, checkOp o = 0) ∧ s = putAll .new l ∧ s.base = sumB l ∧ s.result = sumR l := by
  obtain ⟨e1, e2⟩ := push_put (s := .new) (i := 0) (l := l) (by show (pushAll l).2.2 = 0; rw [h])
  have e3 : s = putAll .new l := by
    have := h.symm.trans e1
    exact congrArg Prod.fst this
  obtain ⟨p1, p2⟩ := put_sums (s := .new) e2
  refine ⟨e2, e3, ?_, ?_⟩
  · rw [e3, p1]; simp [Bld.new]
  · rw [e3, p2]; simp [Bld.new]
theorem deletedL_len (l : List Piece) (g : Int) : (deletedL l g).length ≤ l.length + 1 := by unfold deletedL; split <;> simp
theorem put_len (s : Bld) (p : Piece) : (s.put p).pieces.length ≤ s.pieces.length + 2 := by
  have h1 := joinedL_len s.pieces p
  have h2 := joinedL_len (deletedL s.pieces s.gone) p
  have h3 := deletedL_len s.pieces s.gone
  cases p <;> simp only [Bld.put] <;> omega
theorem putAll_len {l : List Op} : ∀ {s : Bld}, (putAll s l).pieces.length ≤ s.pieces.length + 2 * l.length := by
  induction l with
  | nil => intro s; simp [putAll]
  | cons o l ih =>
    intro s
    have h1 := ih (s := s.put (toPiece o))
    have h2 := put_len s (toPiece o)
    rw [List.length_cons]
    show (putAll (s.put (toPiece o)) l).pieces.length ≤ _
    omega
theorem delta_len (s : Bld) : s.delta.length ≤ s.pieces.length + 1 := by
  have h := deletedL_len s.pieces s.gone
  have : (trimmed (deletedL s.pieces s.gone)).length ≤ (deletedL s.pieces s.gone).length := by
    unfold trimmed
    split
    · rw [List.length_dropLast]; omega
    · exact Nat.le_refl _
  unfold Bld.delta
  omega
set_option maxRecDepth 20000 in
set_option maxHeartbeats 8000000 in
theorem rof06_any {ea : Nat → Addr} (l : List Op) (v : Value) (w : World) (hE : Env ea w) (hl : RdOps w v l) (hT : opsum l ≤ 1099511627776) (hN : 2 * l.length + 4 ≤ 1099511627776) :
    Calls Tryz.prog 90 #[v] w fun e w' => ∃ v', e = .returned (.tuple #[v', .int .i64 (pushAll l).2.1, .int .i64 (pushAll l).2.2]) ∧ Gr w w' ∧ ((pushAll l).2.2 = 0 → RdOps w' v' ((pushAll l).1.delta.map Piece.op)) ∧ ((pushAll l).2.2 ≠ 0 → v' = .slice none 0 0) := by
  obtain ⟨a, n, cap, rfl, hcap, hm, hb, hn⟩ := hl.sl
  have HT := Lib.hid (And.intro hT hN); clear hT hN
  go_enter Tryz.func90, Tryz.ntmps90
  go_wp2
  go_loopw [5, 6, 13] (fun x y i wr => ∃ (k : Nat) (s : Bld), k ≤ n ∧ i = .int .i64 k ∧ x = .int .i64 s.base ∧ y = .int .i64 s.result ∧ 0 ≤ s.base ∧ s.base ≤ 1099511627776 ∧ 0 ≤ s.result ∧ s.result ≤ 1099511627776 ∧ Gr w wr ∧ pushFrom s k (l.drop k) = pushAll l) (fun _ _ i _ => n - (intOf i).toNat)
  case atStart => exact ⟨0, .new, Nat.zero_le _, rfl, rfl, rfl, by decide, by decide, by decide, by decide, Gr.refl _, rfl⟩
  case round =>
    obtain ⟨k, s, hk, rfl, rfl, rfl, b0, b1, r0, r1, hg, ht⟩ := hrel
    have Ht := Lib.hid ht; clear ht
    obtain ⟨B, hB⟩ : ∃ B, s.base = B := ⟨_, rfl⟩
    obtain ⟨R, hR⟩ : ∃ R, s.result = R := ⟨_, rfl⟩
    rw [hB] at b0 b1 ⊢
    rw [hR] at r0 r1 ⊢
    have HBR := Lib.hid (And.intro hB hR); clear hB hR
    by_cases hlt : k < n
    · obtain ⟨b, off, xk, xt, xa, xb, xv, xc, ats, sl, hx, rfl, hr, c0, c1, c2, c3, c4, c5, c6, s1, s2⟩ := (RdOps.gr hl hg).at_ k hlt
      have hlt' : (k : Int) < n := by omega
      obtain ⟨E, hEE⟩ : ∃ E, checkOp ⟨xk, xt, ⟨xa, xb, xv⟩, xc, ats⟩ = E := ⟨_, rfl⟩
      obtain ⟨sa, sc, hsl, -⟩ := RdList.slice hr
      subst hsl
      by_cases h0 : E = 0
      · subst h0
        have hkind := ok_kind hEE
        simp only at hkind
        obtain ⟨N0, N1⟩ := rlen_bound hEE s1
        obtain ⟨N, hN'⟩ : ∃ N, rlen ⟨xk, xt, ⟨xa, xb, xv⟩, xc, ats⟩ = N := ⟨_, rfl⟩
        rw [hN'] at N0 N1
        have hl6 := len06_ok hEE
        rw [hN'] at hl6
        have hp3 := push_three (s := s) hEE
        rw [HBR.out.1, HBR.out.2] at hp3
        have hst := put_base s ⟨xk, xt, ⟨xa, xb, xv⟩, xc, ats⟩
        rw [piece_b hEE, piece_r hEE, HBR.out.1, HBR.out.2] at hst
        simp only [baseO, resO, hN'] at hp3 hst
        have HL := Lib.hid (And.intro hEE (And.intro hl6 hx)); clear hEE hl6 hx hN'
        have hmin : min N 1099511627777 = N := by omega
        rcases hkind with rfl | rfl | rfl | rfl
        · simp at hp3 hst
          by_cases hf1 : B ≤ 1099511627776
          · by_cases hf2 : R + N ≤ 1099511627776
            · rw [if_pos ⟨hf1, hf2⟩] at hp3
              have HS := Lib.hid (And.intro hp3 hst); clear hp3 hst
              go_wp2_with (first
              | (go_at_call 146; refine (rocheck_any _ _ _ _ _ _ _ ats _ (hE.gr (by repeat (with_reducible first | assumption | exact Gr.refl _ | apply Gr.alloc | apply Gr.drewN | apply Gr.drew | apply Gr.iter | (refine Gr.setCell ?_ (by simp) _) | (refine Gr.trans ?_ (by assumption))))) (RdAttrs.gr (w := wr) hr (by repeat (with_reducible first | assumption | exact Gr.refl _ | apply Gr.alloc | apply Gr.drewN | apply Gr.drew | apply Gr.iter | (refine Gr.setCell ?_ (by simp) _) | (refine Gr.trans ?_ (by assumption))))) s1 s2).mono ?_; rw [HL.out.1]; rintro e w2 ⟨rfl, hg2⟩; have x0 := fun o => hg2.cells wr.heap.size o (by simp); have z2 : wr.heap.size < w2.heap.size := Gr.lt hg2)
              | (go_at_call 147; refine (len06_any _ _ _ _ _ _ _ ats _ (RdAttrs.gr (w := wr) hr (by repeat (with_reducible first | assumption | exact Gr.refl _ | apply Gr.alloc | apply Gr.drewN | apply Gr.drew | apply Gr.iter | (refine Gr.setCell ?_ (by simp) _) | (refine Gr.trans ?_ (by assumption))))) s1).mono ?_; rw [HL.out.2.1]; rintro e w3 ⟨rfl, hg3⟩; have y0 := fun o => hg3.cells wr.heap.size o z2; have z3 : wr.heap.size < w3.heap.size := Nat.lt_of_lt_of_le z2 hg3.size)
              | (go_at_call 100; refine (insert06_any 1 xt xa xb xv xc _ ats _ (RdAttrs.gr (w := wr) hr (by repeat (with_reducible first | assumption | exact Gr.refl _ | apply Gr.alloc | apply Gr.drewN | apply Gr.drew | apply Gr.iter | (refine Gr.setCell ?_ (by simp) _) | (refine Gr.trans ?_ (by assumption)))))).mono ?_; rw [show isIns ⟨1, xt, ⟨xa, xb, xv⟩, xc, ats⟩ = true from rfl]; rintro e w4 ⟨rfl, hg4⟩; have v0 := fun o => hg4.cells wr.heap.size o z3))
              go_roundw
              case rel =>
                obtain ⟨h1, h2, h3⟩ := HS.out
                refine ⟨k + 1, _, by omega, by go_num, by rw [h2], by rw [h3], by rw [h2]; omega, by rw [h2]; omega, by rw [h3]; omega, by rw [h3]; omega, (by repeat (with_reducible first | assumption | exact Gr.refl _ | apply Gr.alloc | apply Gr.drewN | apply Gr.drew | apply Gr.iter | (refine Gr.setCell ?_ (by simp) _) | (refine Gr.trans ?_ (by assumption)))), ?_⟩
                rw [← Ht.out, drop_cons HL.out.2.2, pushFrom_ok (by rw [h1]), h1]
              case measure => simp [intOf]; omega
            · rw [if_neg (fun h => hf2 h.2)] at hp3
              have HS := Lib.hid (And.intro hp3 hst); clear hp3 hst
              first
                | (exfalso; omega)
                | (go_wp2_with (first
                   | (go_at_call 146; refine (rocheck_any _ _ _ _ _ _ _ ats _ (hE.gr (by repeat (with_reducible first | assumption | exact Gr.refl _ | apply Gr.alloc | apply Gr.drewN | apply Gr.drew | apply Gr.iter | (refine Gr.setCell ?_ (by simp) _) | (refine Gr.trans ?_ (by assumption))))) (RdAttrs.gr (w := wr) hr (by repeat (with_reducible first | assumption | exact Gr.refl _ | apply Gr.alloc | apply Gr.drewN | apply Gr.drew | apply Gr.iter | (refine Gr.setCell ?_ (by simp) _) | (refine Gr.trans ?_ (by assumption))))) s1 s2).mono ?_; rw [HL.out.1]; rintro e w2 ⟨rfl, hg2⟩; have x0 := fun o => hg2.cells wr.heap.size o (by simp); have z2 : wr.heap.size < w2.heap.size := Gr.lt hg2)
                   | (go_at_call 147; refine (len06_any _ _ _ _ _ _ _ ats _ (RdAttrs.gr (w := wr) hr (by repeat (with_reducible first | assumption | exact Gr.refl _ | apply Gr.alloc | apply Gr.drewN | apply Gr.drew | apply Gr.iter | (refine Gr.setCell ?_ (by simp) _) | (refine Gr.trans ?_ (by assumption))))) s1).mono ?_; rw [HL.out.2.1]; rintro e w3 ⟨rfl, hg3⟩; have y0 := fun o => hg3.cells wr.heap.size o z2; have z3 : wr.heap.size < w3.heap.size := Nat.lt_of_lt_of_le z2 hg3.size)
                   | (go_at_call 100; refine (insert06_any 1 xt xa xb xv xc _ ats _ (RdAttrs.gr (w := wr) hr (by repeat (with_reducible first | assumption | exact Gr.refl _ | apply Gr.alloc | apply Gr.drewN | apply Gr.drew | apply Gr.iter | (refine Gr.setCell ?_ (by simp) _) | (refine Gr.trans ?_ (by assumption)))))).mono ?_; rw [show isIns ⟨1, xt, ⟨xa, xb, xv⟩, xc, ats⟩ = true from rfl]; rintro e w4 ⟨rfl, hg4⟩; have v0 := fun o => hg4.cells wr.heap.size o z3))
                   go_ret3
                   have hb : pushAll l = (s, k, 11) := by rw [← Ht.out, drop_cons HL.out.2.2, pushFrom_bad (by rw [HS.out.1]; exact (show (11 : Int) ≠ 0 by decide)), HS.out.1]
                   rw [hb]
                   exact ⟨_, ret_three rfl rfl rfl, (by repeat (with_reducible first | assumption | exact Gr.refl _ | apply Gr.alloc | apply Gr.drewN | apply Gr.drew | apply Gr.iter | (refine Gr.setCell ?_ (by simp) _) | (refine Gr.trans ?_ (by assumption)))), fun h => absurd h (show ¬ (11 : Int) = 0 by decide), fun _ => rfl⟩)
          · rw [if_neg (fun h => hf1 h.1)] at hp3
            have HS := Lib.hid (And.intro hp3 hst); clear hp3 hst
            first
              | (exfalso; omega)
              | (go_wp2_with (first
                 | (go_at_call 146; refine (rocheck_any _ _ _ _ _ _ _ ats _ (hE.gr (by repeat (with_reducible first | assumption | exact Gr.refl _ | apply Gr.alloc | apply Gr.drewN | apply Gr.drew | apply Gr.iter | (refine Gr.setCell ?_ (by simp) _) | (refine Gr.trans ?_ (by assumption))))) (RdAttrs.gr (w := wr) hr (by repeat (with_reducible first | assumption | exact Gr.refl _ | apply Gr.alloc | apply Gr.drewN | apply Gr.drew | apply Gr.iter | (refine Gr.setCell ?_ (by simp) _) | (refine Gr.trans ?_ (by assumption))))) s1 s2).mono ?_; rw [HL.out.1]; rintro e w2 ⟨rfl, hg2⟩; have x0 := fun o => hg2.cells wr.heap.size o (by simp); have z2 : wr.heap.size < w2.heap.size := Gr.lt hg2)
                 | (go_at_call 147; refine (len06_any _ _ _ _ _ _ _ ats _ (RdAttrs.gr (w := wr) hr (by repeat (with_reducible first | assumption | exact Gr.refl _ | apply Gr.alloc | apply Gr.drewN | apply Gr.drew | apply Gr.iter | (refine Gr.setCell ?_ (by simp) _) | (refine Gr.trans ?_ (by assumption))))) s1).mono ?_; rw [HL.out.2.1]; rintro e w3 ⟨rfl, hg3⟩; have y0 := fun o => hg3.cells wr.heap.size o z2; have z3 : wr.heap.size < w3.heap.size := Nat.lt_of_lt_of_le z2 hg3.size)
                 | (go_at_call 100; refine (insert06_any 1 xt xa xb xv xc _ ats _ (RdAttrs.gr (w := wr) hr (by repeat (with_reducible first | assumption | exact Gr.refl _ | apply Gr.alloc | apply Gr.drewN | apply Gr.drew | apply Gr.iter | (refine Gr.setCell ?_ (by simp) _) | (refine Gr.trans ?_ (by assumption)))))).mono ?_; rw [show isIns ⟨1, xt, ⟨xa, xb, xv⟩, xc, ats⟩ = true from rfl]; rintro e w4 ⟨rfl, hg4⟩; have v0 := fun o => hg4.cells wr.heap.size o z3))
                 go_ret3
                 have hb : pushAll l = (s, k, 11) := by rw [← Ht.out, drop_cons HL.out.2.2, pushFrom_bad (by rw [HS.out.1]; exact (show (11 : Int) ≠ 0 by decide)), HS.out.1]
                 rw [hb]
                 exact ⟨_, ret_three rfl rfl rfl, (by repeat (with_reducible first | assumption | exact Gr.refl _ | apply Gr.alloc | apply Gr.drewN | apply Gr.drew | apply Gr.iter | (refine Gr.setCell ?_ (by simp) _) | (refine Gr.trans ?_ (by assumption)))), fun h => absurd h (show ¬ (11 : Int) = 0 by decide), fun _ => rfl⟩)
        · simp at hp3 hst
          by_cases hf1 : B ≤ 1099511627776
          · by_cases hf2 : R + N ≤ 1099511627776
            · rw [if_pos ⟨hf1, hf2⟩] at hp3
              have HS := Lib.hid (And.intro hp3 hst); clear hp3 hst
              go_wp2_with (first
              | (go_at_call 146; refine (rocheck_any _ _ _ _ _ _ _ ats _ (hE.gr (by repeat (with_reducible first | assumption | exact Gr.refl _ | apply Gr.alloc | apply Gr.drewN | apply Gr.drew | apply Gr.iter | (refine Gr.setCell ?_ (by simp) _) | (refine Gr.trans ?_ (by assumption))))) (RdAttrs.gr (w := wr) hr (by repeat (with_reducible first | assumption | exact Gr.refl _ | apply Gr.alloc | apply Gr.drewN | apply Gr.drew | apply Gr.iter | (refine Gr.setCell ?_ (by simp) _) | (refine Gr.trans ?_ (by assumption))))) s1 s2).mono ?_; rw [HL.out.1]; rintro e w2 ⟨rfl, hg2⟩; have x0 := fun o => hg2.cells wr.heap.size o (by simp); have z2 : wr.heap.size < w2.heap.size := Gr.lt hg2)
              | (go_at_call 147; refine (len06_any _ _ _ _ _ _ _ ats _ (RdAttrs.gr (w := wr) hr (by repeat (with_reducible first | assumption | exact Gr.refl _ | apply Gr.alloc | apply Gr.drewN | apply Gr.drew | apply Gr.iter | (refine Gr.setCell ?_ (by simp) _) | (refine Gr.trans ?_ (by assumption))))) s1).mono ?_; rw [HL.out.2.1]; rintro e w3 ⟨rfl, hg3⟩; have y0 := fun o => hg3.cells wr.heap.size o z2; have z3 : wr.heap.size < w3.heap.size := Nat.lt_of_lt_of_le z2 hg3.size)
              | (go_at_call 100; refine (insert06_any 2 xt xa xb xv xc _ ats _ (RdAttrs.gr (w := wr) hr (by repeat (with_reducible first | assumption | exact Gr.refl _ | apply Gr.alloc | apply Gr.drewN | apply Gr.drew | apply Gr.iter | (refine Gr.setCell ?_ (by simp) _) | (refine Gr.trans ?_ (by assumption)))))).mono ?_; rw [show isIns ⟨2, xt, ⟨xa, xb, xv⟩, xc, ats⟩ = true from rfl]; rintro e w4 ⟨rfl, hg4⟩; have v0 := fun o => hg4.cells wr.heap.size o z3))
              go_roundw
              case rel =>
                obtain ⟨h1, h2, h3⟩ := HS.out
                refine ⟨k + 1, _, by omega, by go_num, by rw [h2], by rw [h3], by rw [h2]; omega, by rw [h2]; omega, by rw [h3]; omega, by rw [h3]; omega, (by repeat (with_reducible first | assumption | exact Gr.refl _ | apply Gr.alloc | apply Gr.drewN | apply Gr.drew | apply Gr.iter | (refine Gr.setCell ?_ (by simp) _) | (refine Gr.trans ?_ (by assumption)))), ?_⟩
                rw [← Ht.out, drop_cons HL.out.2.2, pushFrom_ok (by rw [h1]), h1]
              case measure => simp [intOf]; omega
            · rw [if_neg (fun h => hf2 h.2)] at hp3
              have HS := Lib.hid (And.intro hp3 hst); clear hp3 hst
              first
                | (exfalso; omega)
                | (go_wp2_with (first
                   | (go_at_call 146; refine (rocheck_any _ _ _ _ _ _ _ ats _ (hE.gr (by repeat (with_reducible first | assumption | exact Gr.refl _ | apply Gr.alloc | apply Gr.drewN | apply Gr.drew | apply Gr.iter | (refine Gr.setCell ?_ (by simp) _) | (refine Gr.trans ?_ (by assumption))))) (RdAttrs.gr (w := wr) hr (by repeat (with_reducible first | assumption | exact Gr.refl _ | apply Gr.alloc | apply Gr.drewN | apply Gr.drew | apply Gr.iter | (refine Gr.setCell ?_ (by simp) _) | (refine Gr.trans ?_ (by assumption))))) s1 s2).mono ?_; rw [HL.out.1]; rintro e w2 ⟨rfl, hg2⟩; have x0 := fun o => hg2.cells wr.heap.size o (by simp); have z2 : wr.heap.size < w2.heap.size := Gr.lt hg2)
                   | (go_at_call 147; refine (len06_any _ _ _ _ _ _ _ ats _ (RdAttrs.gr (w := wr) hr (by repeat (with_reducible first | assumption | exact Gr.refl _ | apply Gr.alloc | apply Gr.drewN | apply Gr.drew | apply Gr.iter | (refine Gr.setCell ?_ (by simp) _) | (refine Gr.trans ?_ (by assumption))))) s1).mono ?_; rw [HL.out.2.1]; rintro e w3 ⟨rfl, hg3⟩; have y0 := fun o => hg3.cells wr.heap.size o z2; have z3 : wr.heap.size < w3.heap.size := Nat.lt_of_lt_of_le z2 hg3.size)
                   | (go_at_call 100; refine (insert06_any 2 xt xa xb xv xc _ ats _ (RdAttrs.gr (w := wr) hr (by repeat (with_reducible first | assumption | exact Gr.refl _ | apply Gr.alloc | apply Gr.drewN | apply Gr.drew | apply Gr.iter | (refine Gr.setCell ?_ (by simp) _) | (refine Gr.trans ?_ (by assumption)))))).mono ?_; rw [show isIns ⟨2, xt, ⟨xa, xb, xv⟩, xc, ats⟩ = true from rfl]; rintro e w4 ⟨rfl, hg4⟩; have v0 := fun o => hg4.cells wr.heap.size o z3))
                   go_ret3
                   have hb : pushAll l = (s, k, 11) := by rw [← Ht.out, drop_cons HL.out.2.2, pushFrom_bad (by rw [HS.out.1]; exact (show (11 : Int) ≠ 0 by decide)), HS.out.1]
                   rw [hb]
                   exact ⟨_, ret_three rfl rfl rfl, (by repeat (with_reducible first | assumption | exact Gr.refl _ | apply Gr.alloc | apply Gr.drewN | apply Gr.drew | apply Gr.iter | (refine Gr.setCell ?_ (by simp) _) | (refine Gr.trans ?_ (by assumption)))), fun h => absurd h (show ¬ (11 : Int) = 0 by decide), fun _ => rfl⟩)
          · rw [if_neg (fun h => hf1 h.1)] at hp3
            have HS := Lib.hid (And.intro hp3 hst); clear hp3 hst
            first
              | (exfalso; omega)
              | (go_wp2_with (first
                 | (go_at_call 146; refine (rocheck_any _ _ _ _ _ _ _ ats _ (hE.gr (by repeat (with_reducible first | assumption | exact Gr.refl _ | apply Gr.alloc | apply Gr.drewN | apply Gr.drew | apply Gr.iter | (refine Gr.setCell ?_ (by simp) _) | (refine Gr.trans ?_ (by assumption))))) (RdAttrs.gr (w := wr) hr (by repeat (with_reducible first | assumption | exact Gr.refl _ | apply Gr.alloc | apply Gr.drewN | apply Gr.drew | apply Gr.iter | (refine Gr.setCell ?_ (by simp) _) | (refine Gr.trans ?_ (by assumption))))) s1 s2).mono ?_; rw [HL.out.1]; rintro e w2 ⟨rfl, hg2⟩; have x0 := fun o => hg2.cells wr.heap.size o (by simp); have z2 : wr.heap.size < w2.heap.size := Gr.lt hg2)
                 | (go_at_call 147; refine (len06_any _ _ _ _ _ _ _ ats _ (RdAttrs.gr (w := wr) hr (by repeat (with_reducible first | assumption | exact Gr.refl _ | apply Gr.alloc | apply Gr.drewN | apply Gr.drew | apply Gr.iter | (refine Gr.setCell ?_ (by simp) _) | (refine Gr.trans ?_ (by assumption))))) s1).mono ?_; rw [HL.out.2.1]; rintro e w3 ⟨rfl, hg3⟩; have y0 := fun o => hg3.cells wr.heap.size o z2; have z3 : wr.heap.size < w3.heap.size := Nat.lt_of_lt_of_le z2 hg3.size)
                 | (go_at_call 100; refine (insert06_any 2 xt xa xb xv xc _ ats _ (RdAttrs.gr (w := wr) hr (by repeat (with_reducible first | assumption | exact Gr.refl _ | apply Gr.alloc | apply Gr.drewN | apply Gr.drew | apply Gr.iter | (refine Gr.setCell ?_ (by simp) _) | (refine Gr.trans ?_ (by assumption)))))).mono ?_; rw [show isIns ⟨2, xt, ⟨xa, xb, xv⟩, xc, ats⟩ = true from rfl]; rintro e w4 ⟨rfl, hg4⟩; have v0 := fun o => hg4.cells wr.heap.size o z3))
                 go_ret3
                 have hb : pushAll l = (s, k, 11) := by rw [← Ht.out, drop_cons HL.out.2.2, pushFrom_bad (by rw [HS.out.1]; exact (show (11 : Int) ≠ 0 by decide)), HS.out.1]
                 rw [hb]
                 exact ⟨_, ret_three rfl rfl rfl, (by repeat (with_reducible first | assumption | exact Gr.refl _ | apply Gr.alloc | apply Gr.drewN | apply Gr.drew | apply Gr.iter | (refine Gr.setCell ?_ (by simp) _) | (refine Gr.trans ?_ (by assumption)))), fun h => absurd h (show ¬ (11 : Int) = 0 by decide), fun _ => rfl⟩)
        · simp at hp3 hst
          by_cases hf1 : B + N ≤ 1099511627776
          · by_cases hf2 : R + N ≤ 1099511627776
            · rw [if_pos ⟨hf1, hf2⟩] at hp3
              have HS := Lib.hid (And.intro hp3 hst); clear hp3 hst
              go_wp2_with (first
              | (go_at_call 146; refine (rocheck_any _ _ _ _ _ _ _ ats _ (hE.gr (by repeat (with_reducible first | assumption | exact Gr.refl _ | apply Gr.alloc | apply Gr.drewN | apply Gr.drew | apply Gr.iter | (refine Gr.setCell ?_ (by simp) _) | (refine Gr.trans ?_ (by assumption))))) (RdAttrs.gr (w := wr) hr (by repeat (with_reducible first | assumption | exact Gr.refl _ | apply Gr.alloc | apply Gr.drewN | apply Gr.drew | apply Gr.iter | (refine Gr.setCell ?_ (by simp) _) | (refine Gr.trans ?_ (by assumption))))) s1 s2).mono ?_; rw [HL.out.1]; rintro e w2 ⟨rfl, hg2⟩; have x0 := fun o => hg2.cells wr.heap.size o (by simp); have z2 : wr.heap.size < w2.heap.size := Gr.lt hg2)
              | (go_at_call 147; refine (len06_any _ _ _ _ _ _ _ ats _ (RdAttrs.gr (w := wr) hr (by repeat (with_reducible first | assumption | exact Gr.refl _ | apply Gr.alloc | apply Gr.drewN | apply Gr.drew | apply Gr.iter | (refine Gr.setCell ?_ (by simp) _) | (refine Gr.trans ?_ (by assumption))))) s1).mono ?_; rw [HL.out.2.1]; rintro e w3 ⟨rfl, hg3⟩; have y0 := fun o => hg3.cells wr.heap.size o z2; have z3 : wr.heap.size < w3.heap.size := Nat.lt_of_lt_of_le z2 hg3.size)
              | (go_at_call 100; refine (insert06_any 3 xt xa xb xv xc _ ats _ (RdAttrs.gr (w := wr) hr (by repeat (with_reducible first | assumption | exact Gr.refl _ | apply Gr.alloc | apply Gr.drewN | apply Gr.drew | apply Gr.iter | (refine Gr.setCell ?_ (by simp) _) | (refine Gr.trans ?_ (by assumption)))))).mono ?_; rw [show isIns ⟨3, xt, ⟨xa, xb, xv⟩, xc, ats⟩ = false from rfl]; rintro e w4 ⟨rfl, hg4⟩; have v0 := fun o => hg4.cells wr.heap.size o z3))
              go_roundw
              case rel =>
                obtain ⟨h1, h2, h3⟩ := HS.out
                refine ⟨k + 1, _, by omega, by go_num, by rw [h2], by rw [h3], by rw [h2]; omega, by rw [h2]; omega, by rw [h3]; omega, by rw [h3]; omega, (by repeat (with_reducible first | assumption | exact Gr.refl _ | apply Gr.alloc | apply Gr.drewN | apply Gr.drew | apply Gr.iter | (refine Gr.setCell ?_ (by simp) _) | (refine Gr.trans ?_ (by assumption)))), ?_⟩
                rw [← Ht.out, drop_cons HL.out.2.2, pushFrom_ok (by rw [h1]), h1]
              case measure => simp [intOf]; omega
            · rw [if_neg (fun h => hf2 h.2)] at hp3
              have HS := Lib.hid (And.intro hp3 hst); clear hp3 hst
              first
                | (exfalso; omega)
                | (go_wp2_with (first
                   | (go_at_call 146; refine (rocheck_any _ _ _ _ _ _ _ ats _ (hE.gr (by repeat (with_reducible first | assumption | exact Gr.refl _ | apply Gr.alloc | apply Gr.drewN | apply Gr.drew | apply Gr.iter | (refine Gr.setCell ?_ (by simp) _) | (refine Gr.trans ?_ (by assumption))))) (RdAttrs.gr (w := wr) hr (by repeat (with_reducible first | assumption | exact Gr.refl _ | apply Gr.alloc | apply Gr.drewN | apply Gr.drew | apply Gr.iter | (refine Gr.setCell ?_ (by simp) _) | (refine Gr.trans ?_ (by assumption))))) s1 s2).mono ?_; rw [HL.out.1]; rintro e w2 ⟨rfl, hg2⟩; have x0 := fun o => hg2.cells wr.heap.size o (by simp); have z2 : wr.heap.size < w2.heap.size := Gr.lt hg2)
                   | (go_at_call 147; refine (len06_any _ _ _ _ _ _ _ ats _ (RdAttrs.gr (w := wr) hr (by repeat (with_reducible first | assumption | exact Gr.refl _ | apply Gr.alloc | apply Gr.drewN | apply Gr.drew | apply Gr.iter | (refine Gr.setCell ?_ (by simp) _) | (refine Gr.trans ?_ (by assumption))))) s1).mono ?_; rw [HL.out.2.1]; rintro e w3 ⟨rfl, hg3⟩; have y0 := fun o => hg3.cells wr.heap.size o z2; have z3 : wr.heap.size < w3.heap.size := Nat.lt_of_lt_of_le z2 hg3.size)
                   | (go_at_call 100; refine (insert06_any 3 xt xa xb xv xc _ ats _ (RdAttrs.gr (w := wr) hr (by repeat (with_reducible first | assumption | exact Gr.refl _ | apply Gr.alloc | apply Gr.drewN | apply Gr.drew | apply Gr.iter | (refine Gr.setCell ?_ (by simp) _) | (refine Gr.trans ?_ (by assumption)))))).mono ?_; rw [show isIns ⟨3, xt, ⟨xa, xb, xv⟩, xc, ats⟩ = false from rfl]; rintro e w4 ⟨rfl, hg4⟩; have v0 := fun o => hg4.cells wr.heap.size o z3))
                   go_ret3
                   have hb : pushAll l = (s, k, 11) := by rw [← Ht.out, drop_cons HL.out.2.2, pushFrom_bad (by rw [HS.out.1]; exact (show (11 : Int) ≠ 0 by decide)), HS.out.1]
                   rw [hb]
                   exact ⟨_, ret_three rfl rfl rfl, (by repeat (with_reducible first | assumption | exact Gr.refl _ | apply Gr.alloc | apply Gr.drewN | apply Gr.drew | apply Gr.iter | (refine Gr.setCell ?_ (by simp) _) | (refine Gr.trans ?_ (by assumption)))), fun h => absurd h (show ¬ (11 : Int) = 0 by decide), fun _ => rfl⟩)
          · rw [if_neg (fun h => hf1 h.1)] at hp3
            have HS := Lib.hid (And.intro hp3 hst); clear hp3 hst
            first
              | (exfalso; omega)
              | (go_wp2_with (first
                 | (go_at_call 146; refine (rocheck_any _ _ _ _ _ _ _ ats _ (hE.gr (by repeat (with_reducible first | assumption | exact Gr.refl _ | apply Gr.alloc | apply Gr.drewN | apply Gr.drew | apply Gr.iter | (refine Gr.setCell ?_ (by simp) _) | (refine Gr.trans ?_ (by assumption))))) (RdAttrs.gr (w := wr) hr (by repeat (with_reducible first | assumption | exact Gr.refl _ | apply Gr.alloc | apply Gr.drewN | apply Gr.drew | apply Gr.iter | (refine Gr.setCell ?_ (by simp) _) | (refine Gr.trans ?_ (by assumption))))) s1 s2).mono ?_; rw [HL.out.1]; rintro e w2 ⟨rfl, hg2⟩; have x0 := fun o => hg2.cells wr.heap.size o (by simp); have z2 : wr.heap.size < w2.heap.size := Gr.lt hg2)
                 | (go_at_call 147; refine (len06_any _ _ _ _ _ _ _ ats _ (RdAttrs.gr (w := wr) hr (by repeat (with_reducible first | assumption | exact Gr.refl _ | apply Gr.alloc | apply Gr.drewN | apply Gr.drew | apply Gr.iter | (refine Gr.setCell ?_ (by simp) _) | (refine Gr.trans ?_ (by assumption))))) s1).mono ?_; rw [HL.out.2.1]; rintro e w3 ⟨rfl, hg3⟩; have y0 := fun o => hg3.cells wr.heap.size o z2; have z3 : wr.heap.size < w3.heap.size := Nat.lt_of_lt_of_le z2 hg3.size)
                 | (go_at_call 100; refine (insert06_any 3 xt xa xb xv xc _ ats _ (RdAttrs.gr (w := wr) hr (by repeat (with_reducible first | assumption | exact Gr.refl _ | apply Gr.alloc | apply Gr.drewN | apply Gr.drew | apply Gr.iter | (refine Gr.setCell ?_ (by simp) _) | (refine Gr.trans ?_ (by assumption)))))).mono ?_; rw [show isIns ⟨3, xt, ⟨xa, xb, xv⟩, xc, ats⟩ = false from rfl]; rintro e w4 ⟨rfl, hg4⟩; have v0 := fun o => hg4.cells wr.heap.size o z3))
                 go_ret3
                 have hb : pushAll l = (s, k, 11) := by rw [← Ht.out, drop_cons HL.out.2.2, pushFrom_bad (by rw [HS.out.1]; exact (show (11 : Int) ≠ 0 by decide)), HS.out.1]
                 rw [hb]
                 exact ⟨_, ret_three rfl rfl rfl, (by repeat (with_reducible first | assumption | exact Gr.refl _ | apply Gr.alloc | apply Gr.drewN | apply Gr.drew | apply Gr.iter | (refine Gr.setCell ?_ (by simp) _) | (refine Gr.trans ?_ (by assumption)))), fun h => absurd h (show ¬ (11 : Int) = 0 by decide), fun _ => rfl⟩)
        · simp at hp3 hst
          by_cases hf1 : B + N ≤ 1099511627776
          · by_cases hf2 : R ≤ 1099511627776
            · rw [if_pos ⟨hf1, hf2⟩] at hp3
              have HS := Lib.hid (And.intro hp3 hst); clear hp3 hst
              go_wp2_with (first
              | (go_at_call 146; refine (rocheck_any _ _ _ _ _ _ _ ats _ (hE.gr (by repeat (with_reducible first | assumption | exact Gr.refl _ | apply Gr.alloc | apply Gr.drewN | apply Gr.drew | apply Gr.iter | (refine Gr.setCell ?_ (by simp) _) | (refine Gr.trans ?_ (by assumption))))) (RdAttrs.gr (w := wr) hr (by repeat (with_reducible first | assumption | exact Gr.refl _ | apply Gr.alloc | apply Gr.drewN | apply Gr.drew | apply Gr.iter | (refine Gr.setCell ?_ (by simp) _) | (refine Gr.trans ?_ (by assumption))))) s1 s2).mono ?_; rw [HL.out.1]; rintro e w2 ⟨rfl, hg2⟩; have x0 := fun o => hg2.cells wr.heap.size o (by simp); have z2 : wr.heap.size < w2.heap.size := Gr.lt hg2)
              | (go_at_call 147; refine (len06_any _ _ _ _ _ _ _ ats _ (RdAttrs.gr (w := wr) hr (by repeat (with_reducible first | assumption | exact Gr.refl _ | apply Gr.alloc | apply Gr.drewN | apply Gr.drew | apply Gr.iter | (refine Gr.setCell ?_ (by simp) _) | (refine Gr.trans ?_ (by assumption))))) s1).mono ?_; rw [HL.out.2.1]; rintro e w3 ⟨rfl, hg3⟩; have y0 := fun o => hg3.cells wr.heap.size o z2; have z3 : wr.heap.size < w3.heap.size := Nat.lt_of_lt_of_le z2 hg3.size)
              | (go_at_call 100; refine (insert06_any 4 xt xa xb xv xc _ ats _ (RdAttrs.gr (w := wr) hr (by repeat (with_reducible first | assumption | exact Gr.refl _ | apply Gr.alloc | apply Gr.drewN | apply Gr.drew | apply Gr.iter | (refine Gr.setCell ?_ (by simp) _) | (refine Gr.trans ?_ (by assumption)))))).mono ?_; rw [show isIns ⟨4, xt, ⟨xa, xb, xv⟩, xc, ats⟩ = false from rfl]; rintro e w4 ⟨rfl, hg4⟩; have v0 := fun o => hg4.cells wr.heap.size o z3))
              go_roundw
              case rel =>
                obtain ⟨h1, h2, h3⟩ := HS.out
                refine ⟨k + 1, _, by omega, by go_num, by rw [h2], by rw [h3], by rw [h2]; omega, by rw [h2]; omega, by rw [h3]; omega, by rw [h3]; omega, (by repeat (with_reducible first | assumption | exact Gr.refl _ | apply Gr.alloc | apply Gr.drewN | apply Gr.drew | apply Gr.iter | (refine Gr.setCell ?_ (by simp) _) | (refine Gr.trans ?_ (by assumption)))), ?_⟩
                rw [← Ht.out, drop_cons HL.out.2.2, pushFrom_ok (by rw [h1]), h1]
              case measure => simp [intOf]; omega
            · rw [if_neg (fun h => hf2 h.2)] at hp3
              have HS := Lib.hid (And.intro hp3 hst); clear hp3 hst
              first
                | (exfalso; omega)
                | (go_wp2_with (first
                   | (go_at_call 146; refine (rocheck_any _ _ _ _ _ _ _ ats _ (hE.gr (by repeat (with_reducible first | assumption | exact Gr.refl _ | apply Gr.alloc | apply Gr.drewN | apply Gr.drew | apply Gr.iter | (refine Gr.setCell ?_ (by simp) _) | (refine Gr.trans ?_ (by assumption))))) (RdAttrs.gr (w := wr) hr (by repeat (with_reducible first | assumption | exact Gr.refl _ | apply Gr.alloc | apply Gr.drewN | apply Gr.drew | apply Gr.iter | (refine Gr.setCell ?_ (by simp) _) | (refine Gr.trans ?_ (by assumption))))) s1 s2).mono ?_; rw [HL.out.1]; rintro e w2 ⟨rfl, hg2⟩; have x0 := fun o => hg2.cells wr.heap.size o (by simp); have z2 : wr.heap.size < w2.heap.size := Gr.lt hg2)
                   | (go_at_call 147; refine (len06_any _ _ _ _ _ _ _ ats _ (RdAttrs.gr (w := wr) hr (by repeat (with_reducible first | assumption | exact Gr.refl _ | apply Gr.alloc | apply Gr.drewN | apply Gr.drew | apply Gr.iter | (refine Gr.setCell ?_ (by simp) _) | (refine Gr.trans ?_ (by assumption))))) s1).mono ?_; rw [HL.out.2.1]; rintro e w3 ⟨rfl, hg3⟩; have y0 := fun o => hg3.cells wr.heap.size o z2; have z3 : wr.heap.size < w3.heap.size := Nat.lt_of_lt_of_le z2 hg3.size)
                   | (go_at_call 100; refine (insert06_any 4 xt xa xb xv xc _ ats _ (RdAttrs.gr (w := wr) hr (by repeat (with_reducible first | assumption | exact Gr.refl _ | apply Gr.alloc | apply Gr.drewN | apply Gr.drew | apply Gr.iter | (refine Gr.setCell ?_ (by simp) _) | (refine Gr.trans ?_ (by assumption)))))).mono ?_; rw [show isIns ⟨4, xt, ⟨xa, xb, xv⟩, xc, ats⟩ = false from rfl]; rintro e w4 ⟨rfl, hg4⟩; have v0 := fun o => hg4.cells wr.heap.size o z3))
                   go_ret3
                   have hb : pushAll l = (s, k, 11) := by rw [← Ht.out, drop_cons HL.out.2.2, pushFrom_bad (by rw [HS.out.1]; exact (show (11 : Int) ≠ 0 by decide)), HS.out.1]
                   rw [hb]
                   exact ⟨_, ret_three rfl rfl rfl, (by repeat (with_reducible first | assumption | exact Gr.refl _ | apply Gr.alloc | apply Gr.drewN | apply Gr.drew | apply Gr.iter | (refine Gr.setCell ?_ (by simp) _) | (refine Gr.trans ?_ (by assumption)))), fun h => absurd h (show ¬ (11 : Int) = 0 by decide), fun _ => rfl⟩)
          · rw [if_neg (fun h => hf1 h.1)] at hp3
            have HS := Lib.hid (And.intro hp3 hst); clear hp3 hst
            first
              | (exfalso; omega)
              | (go_wp2_with (first
                 | (go_at_call 146; refine (rocheck_any _ _ _ _ _ _ _ ats _ (hE.gr (by repeat (with_reducible first | assumption | exact Gr.refl _ | apply Gr.alloc | apply Gr.drewN | apply Gr.drew | apply Gr.iter | (refine Gr.setCell ?_ (by simp) _) | (refine Gr.trans ?_ (by assumption))))) (RdAttrs.gr (w := wr) hr (by repeat (with_reducible first | assumption | exact Gr.refl _ | apply Gr.alloc | apply Gr.drewN | apply Gr.drew | apply Gr.iter | (refine Gr.setCell ?_ (by simp) _) | (refine Gr.trans ?_ (by assumption))))) s1 s2).mono ?_; rw [HL.out.1]; rintro e w2 ⟨rfl, hg2⟩; have x0 := fun o => hg2.cells wr.heap.size o (by simp); have z2 : wr.heap.size < w2.heap.size := Gr.lt hg2)
                 | (go_at_call 147; refine (len06_any _ _ _ _ _ _ _ ats _ (RdAttrs.gr (w := wr) hr (by repeat (with_reducible first | assumption | exact Gr.refl _ | apply Gr.alloc | apply Gr.drewN | apply Gr.drew | apply Gr.iter | (refine Gr.setCell ?_ (by simp) _) | (refine Gr.trans ?_ (by assumption))))) s1).mono ?_; rw [HL.out.2.1]; rintro e w3 ⟨rfl, hg3⟩; have y0 := fun o => hg3.cells wr.heap.size o z2; have z3 : wr.heap.size < w3.heap.size := Nat.lt_of_lt_of_le z2 hg3.size)
                 | (go_at_call 100; refine (insert06_any 4 xt xa xb xv xc _ ats _ (RdAttrs.gr (w := wr) hr (by repeat (with_reducible first | assumption | exact Gr.refl _ | apply Gr.alloc | apply Gr.drewN | apply Gr.drew | apply Gr.iter | (refine Gr.setCell ?_ (by simp) _) | (refine Gr.trans ?_ (by assumption)))))).mono ?_; rw [show isIns ⟨4, xt, ⟨xa, xb, xv⟩, xc, ats⟩ = false from rfl]; rintro e w4 ⟨rfl, hg4⟩; have v0 := fun o => hg4.cells wr.heap.size o z3))
                 go_ret3
                 have hb : pushAll l = (s, k, 11) := by rw [← Ht.out, drop_cons HL.out.2.2, pushFrom_bad (by rw [HS.out.1]; exact (show (11 : Int) ≠ 0 by decide)), HS.out.1]
                 rw [hb]
                 exact ⟨_, ret_three rfl rfl rfl, (by repeat (with_reducible first | assumption | exact Gr.refl _ | apply Gr.alloc | apply Gr.drewN | apply Gr.drew | apply Gr.iter | (refine Gr.setCell ?_ (by simp) _) | (refine Gr.trans ?_ (by assumption)))), fun h => absurd h (show ¬ (11 : Int) = 0 by decide), fun _ => rfl⟩)
      · have h0' : (E == 0) = false := by simpa using h0
        have h1' : (E != 0) = true := by simpa using h0
        have HL := Lib.hid (And.intro hEE hx); clear hEE hx
        have H0 := Lib.hid h0; clear h0
        go_wp2_with (go_at_call 146; refine (rocheck_any _ _ _ _ _ _ _ ats _ (hE.gr (by repeat (with_reducible first | assumption | exact Gr.refl _ | apply Gr.alloc | apply Gr.drewN | apply Gr.drew | apply Gr.iter | (refine Gr.setCell ?_ (by simp) _) | (refine Gr.trans ?_ (by assumption))))) (RdAttrs.gr (w := wr) hr (by repeat (with_reducible first | assumption | exact Gr.refl _ | apply Gr.alloc | apply Gr.drewN | apply Gr.drew | apply Gr.iter | (refine Gr.setCell ?_ (by simp) _) | (refine Gr.trans ?_ (by assumption))))) s1 s2).mono ?_; rw [HL.out.1]; rintro e w2 ⟨rfl, hg2⟩)
        go_ret3
        have hpe : (s.push ⟨xk, xt, ⟨xa, xb, xv⟩, xc, ats⟩).2 = E := by unfold Bld.push; rw [HL.out.1, if_pos H0.out]
        have hb : pushAll l = (s, k, E) := by rw [← Ht.out, drop_cons HL.out.2, pushFrom_bad (by rw [hpe]; exact H0.out), hpe]
        rw [hb]
        exact ⟨_, ret_three rfl rfl rfl, (by repeat (with_reducible first | assumption | exact Gr.refl _ | apply Gr.alloc | apply Gr.drewN | apply Gr.drew | apply Gr.iter | (refine Gr.setCell ?_ (by simp) _) | (refine Gr.trans ?_ (by assumption)))), fun h => absurd h H0.out, fun _ => rfl⟩
    · obtain rfl : k = n := by omega
      have hl0 : l.drop k = [] := List.drop_eq_nil_of_le (by rw [hn.out]; exact Nat.le_refl _)
      have hb : pushAll l = (s, 0, 0) := by rw [← Ht.out, hl0]; rfl
      obtain ⟨q1, q2, q3, q4⟩ := all_sums hb
      obtain ⟨q5, q6⟩ := csum_base q1
      have q7 := canon06_put q1
      rw [← q2] at q7
      have hcs : csum l ≤ 4611686018427387000 := by rw [q5, ← q3, HBR.out.1]; omega
      have HQ := Lib.hid (And.intro hb (And.intro q1 (And.intro q6 (And.intro hcs q7)))); 
      have hql : s.delta.length ≤ 1099511627776 := by
        have h1 := delta_len (putAll .new l)
        have h2 := putAll_len (s := .new) (l := l)
        rw [← q2] at h1 h2
        have h3 := HT.out.2
        simp only [Bld.new, List.length_nil] at h2
        omega
      have HQL := Lib.hid hql; clear hql hb hl0 q1 q2 q3 q4 q5 q6 q7 hcs
      go_wp2_with (go_at_call 34; refine (rcanon06_any l _ _ (RdOps.gr (w := w) hl (by repeat (with_reducible first | assumption | exact Gr.refl _ | apply Gr.alloc | apply Gr.drewN | apply Gr.drew | apply Gr.iter | (refine Gr.setCell ?_ (by simp) _) | (refine Gr.trans ?_ (by assumption))))) HQ.out.2.1 HQ.out.2.2.1 HT.out.1 HQ.out.2.2.2.1 HT.out.2).mono ?_; rw [HQ.out.2.2.2.2]; rintro e w2 ⟨v2, rfl, ho2, hg2⟩; obtain ⟨a2, n2, c2, rfl, -⟩ := ho2.sl; have HO := Lib.hid ho2; clear ho2)
      go_ret3
      rw [HQ.out.1]
      refine ⟨_, ret_three rfl rfl rfl, (by repeat (with_reducible first | assumption | exact Gr.refl _ | apply Gr.alloc | apply Gr.drewN | apply Gr.drew | apply Gr.iter | (refine Gr.setCell ?_ (by simp) _) | (refine Gr.trans ?_ (by assumption)))), fun _ => ?_, fun h => absurd rfl h⟩
      exact RdOps.gr (w := w2) (OwnR.rd HO.out hg2 (by rw [List.length_map]; exact HQL.out)) (by repeat (with_reducible first | assumption | exact Gr.refl _ | apply Gr.alloc | apply Gr.drewN | apply Gr.drew | apply Gr.iter | (refine Gr.setCell ?_ (by simp) _) | (refine Gr.trans ?_ (by assumption))))
end Ve
