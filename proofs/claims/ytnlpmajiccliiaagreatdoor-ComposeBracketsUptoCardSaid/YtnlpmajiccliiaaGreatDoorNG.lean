/- Walks of layer 11: short, Compose. -/
import Derived.Test.YtnlpmajiccliiaaGreatDoorNF
import Derived.Test.YtnlpmajiccliiaaGreatDoorB7
import Derived.Test.YtnlpmajiccliiaaGreatDoorME
set_option linter.all false
namespace Ve
open Go Go.RowKit Go.Proofs

theorem take_snoc {l : List Op} {m : Nat} {o : Op} (h : l[m]? = some o) : l.take (m + 1) = l.take m ++ [o] := by
  obtain ⟨hk, rfl⟩ := List.getElem?_eq_some_iff.1 h
  exact List.take_succ_eq_append_getElem hk

set_option maxRecDepth 20000 in
set_option maxHeartbeats 4000000 in
theorem cshort_any (l : List Op) (v : Value) (w : World) (hl : RdOps w v l) :
    Calls Tryz.prog 67 #[v] w fun e w' => ∃ v', e = .returned v' ∧ RdOps w' v' (shortL l) ∧ Gr w w' := by
  obtain ⟨a, n, cap, rfl, hcap, hm, hb, hn⟩ := hl.sl
  obtain ⟨T, hT⟩ : ∃ T, shortL l = T := ⟨_, rfl⟩
  rw [hT]
  have HT := Lib.hid (show shortL (l.take n) = T by rw [List.take_of_length_le (by rw [hn.out]; exact Nat.le_refl _), hT]); clear hT
  go_enter Tryz.func67, Tryz.ntmps67
  go_wp2
  go_loopw [0] (fun x wr => ∃ (m : Nat), m ≤ n ∧ x = .slice a m cap ∧ Gr w wr ∧ shortL (l.take m) = T) (fun x _ => slLenA x)
  case atStart => exact ⟨n, Nat.le_refl _, rfl, Gr.refl _, HT.out⟩
  case round =>
    obtain ⟨m, hmn, rfl, hg, ht⟩ := hrel
    rcases Nat.eq_zero_or_pos m with h0 | h0
    · subst h0
      have Ht := Lib.hid ht; clear ht
      go_wp2
      go_ret
      have e := Ht.out
      rw [show shortL (l.take 0) = [] from rfl] at e
      exact ⟨_, rfl, e ▸ (RdList.take (RdOps.gr hl hg) 0 (Nat.zero_le _)), hg⟩
    · obtain ⟨k, rfl⟩ : ∃ k, m = k + 1 := ⟨m - 1, by omega⟩
      obtain ⟨b, off, xk, xt, xa, xb, xv, xc, ats, sl, hx, rfl, hr, c0, c1, c2, c3, c4, c5, c6, s1, s2⟩ := (RdOps.gr hl hg).at_ k (by omega)
      obtain ⟨sa, sn, sc, rfl, -, -, -, hsn⟩ := hr.sl
      rw [take_snoc hx, short_snoc] at ht
      have hkm : (k : Int) < (k : Int) + 1 := by omega
      have hwm : IntKind.i64.wrap (k : Int) = k := IntWalk.i64_in _ (by omega)
      have hk0 : (0 : Int) < (k : Int) + 1 := by omega
      by_cases hp : plainO ⟨xk, xt, ⟨xa, xb, xv⟩, xc, ats⟩ = true
      · rw [if_pos hp] at ht
        have Ht := Lib.hid ht; clear ht
        simp only [plainO, Bool.and_eq_true, beq_iff_eq] at hp
        obtain ⟨h3, h4⟩ := hp
        subst h3
        have hs0 : sn = 0 := by rw [← hsn.out]; exact h4
        subst hs0
        clear hx h4
        go_wp2
        go_roundw
        case rel => exact ⟨k, by omega, by simp, (by repeat (with_reducible first | assumption | exact Gr.refl _ | apply Gr.alloc | apply Gr.drewN | apply Gr.drew | apply Gr.iter | (refine Gr.setCell ?_ (by simp) _) | (refine Gr.trans ?_ (by assumption)))), Ht.out⟩
        case measure => simp [slLenA]
      · rw [if_neg hp] at ht
        have Ht := Lib.hid ht; clear ht
        have e : RdOps wr (.slice (some ⟨b, off, none⟩) (k + 1) cap) (l.take (k + 1)) := RdList.take (RdOps.gr hl hg) (k + 1) hmn
        rw [take_snoc hx] at e
        have hR : RdOps wr (.slice (some ⟨b, off, none⟩) (k + 1) cap) T := Ht.out ▸ e
        clear hx e
        by_cases h3 : xk = 3
        · subst h3
          have hs0 : 0 < sn := by
            rw [← hsn.out]
            simp only [plainO, Bool.and_eq_true, beq_iff_eq, true_and] at hp
            omega
          have hs1 : (0 : Int) < sn := by omega
          clear hp
          go_wp2
          go_ret
          exact ⟨_, rfl, RdOps.gr hR (by repeat (with_reducible first | assumption | exact Gr.refl _ | apply Gr.alloc | apply Gr.drewN | apply Gr.drew | apply Gr.iter | (refine Gr.setCell ?_ (by simp) _) | (refine Gr.trans ?_ (by assumption)))), (by repeat (with_reducible first | assumption | exact Gr.refl _ | apply Gr.alloc | apply Gr.drewN | apply Gr.drew | apply Gr.iter | (refine Gr.setCell ?_ (by simp) _) | (refine Gr.trans ?_ (by assumption))))⟩
        · have h31 : (xk == 3) = false := by simpa using h3
          have h32 : (xk != 3) = true := by simpa using h3
          clear hp h3
          go_wp2
          go_ret
          exact ⟨_, rfl, RdOps.gr hR (by repeat (with_reducible first | assumption | exact Gr.refl _ | apply Gr.alloc | apply Gr.drewN | apply Gr.drew | apply Gr.iter | (refine Gr.setCell ?_ (by simp) _) | (refine Gr.trans ?_ (by assumption)))), (by repeat (with_reducible first | assumption | exact Gr.refl _ | apply Gr.alloc | apply Gr.drewN | apply Gr.drew | apply Gr.iter | (refine Gr.setCell ?_ (by simp) _) | (refine Gr.trans ?_ (by assumption))))⟩

/-- All that compose gathers. -/
def compL (ps qs : List Piece) : List Op := shortL (downP ps qs)
theorem comp_facts {ps qs : List Piece} (hp : Can ps) (hq : Can qs) (hN : ps.length + qs.length ≤ 4000000) (hT : tsum ps + tsum qs ≤ 4000000) :
    (∀ o ∈ compL ps qs, checkOp o = 0) ∧ opsum (compL ps qs) ≤ 1099511627776 ∧ 2 * (compL ps qs).length + 4 ≤ 1099511627776 := by
  have h1 := down_sum hp hq
  have h2 := down_len ps qs
  have h3 := short_opsum (downP ps qs)
  refine ⟨fun o ho => down_ok hp hq o (short_mem ho), ?_, ?_⟩
  · unfold compL; omega
  · unfold compL; omega
theorem catE_fits {l : List Op} (h : ∀ o ∈ l, checkOp o = 0) (hc : catE l = 0) : pushAll l = (putAll .new l, 0, 0) := by
  have c : sumB l ≤ 1099511627776 ∧ sumR l ≤ 1099511627776 := by
    unfold catE at hc
    split at hc
    · assumption
    · omega
  exact push_fits (s := .new) (i := 0) (fun o ho => ⟨h o ho, ok_len (h o ho)⟩) (by rw [show (Bld.new).base = 0 from rfl]; omega) (by rw [show (Bld.new).result = 0 from rfl]; omega)

set_option maxHeartbeats 2000000 in
theorem ccompose_told {ea : Nat → Addr} (ps qs : List Piece) (va vb : Value) (w : World) (hE : Env ea w) (ha : DeltaR w va ps) (hb : DeltaR w vb qs) (hp : Can ps) (hq : Can qs) (hN : ps.length + qs.length ≤ 4000000) (hT : tsum ps + tsum qs ≤ 4000000)
    (hAt : ∀ x ∈ stepsP (ps.length + qs.length) ps qs, (∀ p, x.1 = some p → p.attrs.length ≤ 1048576) ∧ ∀ q, x.2 = some q → q.attrs.length ≤ 1048576) :
    Calls Tryz.prog 18 #[va, vb] w fun e w' => ∃ v', e = .returned (.tuple #[v', errOf ea (catE (compL ps qs))]) ∧ DUn (units (putAll .new (compL ps qs)).delta) w' v' (catE (compL ps qs)) ∧ Gr w w' := by
  have e11 := hE.e11; have z11 := cell_lt e11
  obtain ⟨gda, sla, rfl, hBa, hRa⟩ := ha
  have hDa : DeltaR w (.pointer (some ⟨gda, 0, none⟩)) ps := ⟨gda, sla, rfl, hBa, hRa⟩
  obtain ⟨gdb, slb, rfl, hBb, hRb⟩ := hb
  have hDb : DeltaR w (.pointer (some ⟨gdb, 0, none⟩)) qs := ⟨gdb, slb, rfl, hBb, hRb⟩
  clear hBa hRa hBb hRb
  obtain ⟨k1, k2, k3⟩ := comp_facts hp hq hN hT
  have kp := catE_push k1
  have kf := catE_fits k1
  have kd := cat_delta k1
  have ko := catE_or (compL ps qs)
  have hLL : shortL (downP ps qs) = compL ps qs := rfl
  obtain ⟨L, hL⟩ : ∃ L, compL ps qs = L := ⟨_, rfl⟩
  rw [hL] at k2 k3 kp kf kd ko hLL ⊢
  have HLL := Lib.hid hLL; clear hLL hL k1
  obtain ⟨E, hEE⟩ : ∃ E, catE L = E := ⟨_, rfl⟩
  rw [hEE] at kp kf kd ko ⊢
  clear hEE
  obtain ⟨U, hU⟩ : ∃ U, units (putAll .new L).delta = U := ⟨_, rfl⟩
  rw [hU]
  rcases ko with rfl | rfl
  · have KF := Lib.hid (kf rfl)
    obtain ⟨d1, d2⟩ := kd rfl k2
    have HD := Lib.hid (And.intro d1 (And.intro d2 hU)); clear d1 d2 hU kd kf kp
    go_enter Tryz.func18, Tryz.ntmps18
    go_wp2_with (first
      | (go_at_call 66; refine (down_any ps qs _ _ _ (hE.gr (by repeat (with_reducible first | assumption | exact Gr.refl _ | apply Gr.alloc | apply Gr.drewN | apply Gr.drew | apply Gr.iter | (refine Gr.setCell ?_ (by simp) _) | (refine Gr.trans ?_ (by assumption))))) (hDa.gr (by repeat (with_reducible first | assumption | exact Gr.refl _ | apply Gr.alloc | apply Gr.drewN | apply Gr.drew | apply Gr.iter | (refine Gr.setCell ?_ (by simp) _) | (refine Gr.trans ?_ (by assumption))))) (hDb.gr (by repeat (with_reducible first | assumption | exact Gr.refl _ | apply Gr.alloc | apply Gr.drewN | apply Gr.drew | apply Gr.iter | (refine Gr.setCell ?_ (by simp) _) | (refine Gr.trans ?_ (by assumption))))) hp hq hN hAt).mono ?_; rintro e w1 ⟨v1, rfl, hr1, hg1⟩; obtain ⟨a1, n1, c1, rfl, -⟩ := hr1.sl)
      | (go_at_call 67; refine (cshort_any _ _ _ (RdOps.gr hr1 (by repeat (with_reducible first | assumption | exact Gr.refl _ | apply Gr.alloc | apply Gr.drewN | apply Gr.drew | apply Gr.iter | (refine Gr.setCell ?_ (by simp) _) | (refine Gr.trans ?_ (by assumption)))))).mono ?_; rw [HLL.out]; rintro e w2 ⟨v2, rfl, hr2, hg2⟩; obtain ⟨a2, n2, c2, rfl, -⟩ := hr2.sl)
      | (go_at_call 44; refine (bof_any L _ _ (hE.gr (by repeat (with_reducible first | assumption | exact Gr.refl _ | apply Gr.alloc | apply Gr.drewN | apply Gr.drew | apply Gr.iter | (refine Gr.setCell ?_ (by simp) _) | (refine Gr.trans ?_ (by assumption))))) (RdOps.gr hr2 (by repeat (with_reducible first | assumption | exact Gr.refl _ | apply Gr.alloc | apply Gr.drewN | apply Gr.drew | apply Gr.iter | (refine Gr.setCell ?_ (by simp) _) | (refine Gr.trans ?_ (by assumption))))) k2 (by omega)).mono ?_; unfold OfRes; rw [KF.out]; rintro e w3 ⟨v3, rfl, hg3, hd3, -⟩; have hd3 := hd3 rfl; obtain ⟨g3, sl3, hv3, hbr3⟩ := hd3; subst hv3; have hD3 : DeltaR w3 (.pointer (some ⟨g3, 0, none⟩)) (putAll .new L).delta := ⟨g3, sl3, rfl, hbr3⟩; clear hbr3; dsimp only; rw [errOf_zero]))
    go_ret2
    exact ⟨_, ret_two rfl (by rw [errOf_zero]; rfl), .inl ⟨rfl, _, hD3, HD.out.1, HD.out.2.1, HD.out.2.2⟩, (by repeat (with_reducible first | assumption | exact Gr.refl _ | apply Gr.alloc | apply Gr.drewN | apply Gr.drew | apply Gr.iter | (refine Gr.setCell ?_ (by simp) _) | (refine Gr.trans ?_ (by assumption))))⟩
  · obtain ⟨⟨s, i, E⟩, hP⟩ : ∃ P, pushAll L = P := ⟨_, rfl⟩
    rw [hP] at kp
    obtain rfl : E = 11 := kp
    have KF := Lib.hid hP; clear hP kd kf hU
    go_enter Tryz.func18, Tryz.ntmps18
    go_wp2_with (first
      | (go_at_call 66; refine (down_any ps qs _ _ _ (hE.gr (by repeat (with_reducible first | assumption | exact Gr.refl _ | apply Gr.alloc | apply Gr.drewN | apply Gr.drew | apply Gr.iter | (refine Gr.setCell ?_ (by simp) _) | (refine Gr.trans ?_ (by assumption))))) (hDa.gr (by repeat (with_reducible first | assumption | exact Gr.refl _ | apply Gr.alloc | apply Gr.drewN | apply Gr.drew | apply Gr.iter | (refine Gr.setCell ?_ (by simp) _) | (refine Gr.trans ?_ (by assumption))))) (hDb.gr (by repeat (with_reducible first | assumption | exact Gr.refl _ | apply Gr.alloc | apply Gr.drewN | apply Gr.drew | apply Gr.iter | (refine Gr.setCell ?_ (by simp) _) | (refine Gr.trans ?_ (by assumption))))) hp hq hN hAt).mono ?_; rintro e w1 ⟨v1, rfl, hr1, hg1⟩; obtain ⟨a1, n1, c1, rfl, -⟩ := hr1.sl)
      | (go_at_call 67; refine (cshort_any _ _ _ (RdOps.gr hr1 (by repeat (with_reducible first | assumption | exact Gr.refl _ | apply Gr.alloc | apply Gr.drewN | apply Gr.drew | apply Gr.iter | (refine Gr.setCell ?_ (by simp) _) | (refine Gr.trans ?_ (by assumption)))))).mono ?_; rw [HLL.out]; rintro e w2 ⟨v2, rfl, hr2, hg2⟩; obtain ⟨a2, n2, c2, rfl, -⟩ := hr2.sl)
      | (go_at_call 44; refine (bof_any L _ _ (hE.gr (by repeat (with_reducible first | assumption | exact Gr.refl _ | apply Gr.alloc | apply Gr.drewN | apply Gr.drew | apply Gr.iter | (refine Gr.setCell ?_ (by simp) _) | (refine Gr.trans ?_ (by assumption))))) (RdOps.gr hr2 (by repeat (with_reducible first | assumption | exact Gr.refl _ | apply Gr.alloc | apply Gr.drewN | apply Gr.drew | apply Gr.iter | (refine Gr.setCell ?_ (by simp) _) | (refine Gr.trans ?_ (by assumption))))) k2 (by omega)).mono ?_; unfold OfRes; rw [KF.out]; rintro e w3 ⟨v3, rfl, hg3, -, hn3⟩; have hn3 := hn3 (show (11 : Int) ≠ 0 by decide); subst hn3; dsimp only; have f11 := (hE.gr (w' := w3) (by repeat (with_reducible first | assumption | exact Gr.refl _ | apply Gr.alloc | apply Gr.drewN | apply Gr.drew | apply Gr.iter | (refine Gr.setCell ?_ (by simp) _) | (refine Gr.trans ?_ (by assumption))))).e11))
    go_quiet (fail)
    go_wp2
    go_ret2
    exact ⟨_, ret_two rfl rfl, .inr ⟨by omega, by omega, rfl⟩, (by repeat (with_reducible first | assumption | exact Gr.refl _ | apply Gr.alloc | apply Gr.drewN | apply Gr.drew | apply Gr.iter | (refine Gr.setCell ?_ (by simp) _) | (refine Gr.trans ?_ (by assumption))))⟩

end Ve
