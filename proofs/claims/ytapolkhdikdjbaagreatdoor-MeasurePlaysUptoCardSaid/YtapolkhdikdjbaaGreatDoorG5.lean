/- Walks of layer 4, the program's side: copies of attributes, content.refuse, Of. -/
import Derived.Test.YtapolkhdikdjbaaGreatDoorG3
set_option linter.all false
namespace Ve
open Go Go.RowKit Go.Proofs

theorem info_attr : (Tryz.prog.info? 83).map (fun i => (i.zero, i.size, i.bytes)) = some (some (.agg #[.string ⟨#[]⟩, .int .i64 0, .int .i64 0, .string ⟨#[]⟩]), 4, 48) := by kernel_rfl
theorem app_attr (w : World) (base : Nat) (ty : TypeId) {v x : Value} {l m : List Attr} (hown : OwnL AttrR 4 base 83 w v l) (hx : RdAttrs w x m) (hm : l.length + m.length ≤ 1099511627776) (hb : base ≤ w.heap.size) :
    ∃ v' w', (Builtin.append_ #[44, 44] ty #[v, x]).run Tryz.prog w = .ok v' w' ∧ OwnL AttrR 4 base 83 w' v' (l ++ m) ∧ w.grownBy w' v.ownBlock ∧ (v'.ownBlock = v.ownBlock ∨ v'.ownBlock = some w.heap.size) :=
  run_appL w base _ ty _ _ 4 48 Tryz.underlying44 info_attr rfl (by omega) (by omega) (AttrR.flat w) hown hx hm hb (fun _ _ _ _ h => h)
set_option maxHeartbeats 400000 in
theorem copied_any (l : List Attr) (v : Value) (w : World) (hl : RdAttrs w v l) :
    Calls Tryz.prog 196 #[v] w fun e w' => ∃ v', e = .returned v' ∧ OwnL AttrR 4 w.heap.size 83 w' v' l ∧ Gr w w' := by
  obtain ⟨v', w', hrun, hown, hg, -⟩ := app_attr w w.heap.size 44 (OwnL.nil w AttrR 4 w.heap.size 83) hl (by have := hl.slice; obtain ⟨_, _, _, _, _, h⟩ := this; simpa using h) (Nat.le_refl _)
  have Hg := Lib.hid hg; clear hg
  have Ho := Lib.hid hown; clear hown
  obtain ⟨a, cap, rfl, -⟩ := hl.slice
  have HH := Lib.hid hrun; clear hrun
  go_enter Tryz.func196, Tryz.ntmps196
  go_wp2_with (at_builtin; refine wpList_run rfl _ _ _ rfl rfl rfl HH.out ?_)
  go_ret
  exact ⟨_, rfl, Ho.out, (Gr.refl w).grown Hg.out (by simp [Value.ownBlock])⟩
set_option maxHeartbeats 400000 in
theorem cloneA_any (l : List Attr) (v : Value) (w : World) (hl : RdAttrs w v l) :
    Calls Tryz.prog 177 #[v] w fun e w' => ∃ v', e = .returned v' ∧ OwnL AttrR 4 w.heap.size 83 w' v' l ∧ Gr w w' := by
  obtain ⟨a, cap, rfl, -, -, hb⟩ := hl.slice
  cases a with
  | none =>
    obtain rfl := hl.none_nil
    clear hl hb
    go_enter Tryz.func177, Tryz.ntmps177
    go_wp2
    go_ret
    exact ⟨_, rfl, OwnL.nil .., Gr.refl _⟩
  | some a =>
    obtain ⟨v', w', hrun, hown, hg, hw⟩ := app_attr (w.alloc (.cells #[] 83)) w.heap.size 44 (OwnL.made w AttrR 4 w.heap.size 83 (Nat.le_refl _)) (RdAttrs.gr hl (by repeat (with_reducible first | assumption | exact Gr.refl _ | apply Gr.alloc | apply Gr.drewN | apply Gr.drew | apply Gr.iter | (refine Gr.setCell ?_ (by simp) _) | (refine Gr.trans ?_ (by assumption))))) (by simpa using hb) (by simp)
    have Hg := Lib.hid (And.intro hg hw); clear hg hw
    have Ho := Lib.hid hown; clear hown
    have HH := Lib.hid hrun; clear hrun
    go_enter Tryz.func177, Tryz.ntmps177
    go_wp2_with (at_builtin; refine wpList_run rfl _ _ _ rfl rfl rfl HH.out ?_)
    go_ret
    exact ⟨_, rfl, Ho.out, ((Gr.refl w).alloc _).grown Hg.out.1 (by simp [Value.ownBlock])⟩
set_option maxHeartbeats 2000000 in
theorem refuse_any {ea : Nat → Addr} (k : Int) (t : ByteArray) (va vb : Int) (vt : ByteArray) (c : Int) (sl : Value) (l : List Attr) (w : World) (hE : Env ea w) (hl : RdAttrs w sl l) (ht : szS t) (hvt : szS vt) :
    Calls Tryz.prog 195 #[.agg #[.int .i64 k, .string t, .int .i64 va, .int .i64 vb, .string vt, .int .i64 c, sl]] w fun e w' => e = .returned (errOf ea (refuse ⟨k, t, ⟨va, vb, vt⟩, c, l⟩)) ∧ Gr w w' := by
  have e5 := hE.e5; have z5 := cell_lt e5; have e6 := hE.e6; have z6 := cell_lt e6; have e9 := hE.e9; have z9 := cell_lt e9; have e1 := hE.e1; have z1 := cell_lt e1
  obtain ⟨a, cap, rfl, -⟩ := hl.slice
  by_cases hk : k = 1 ∨ k = 2
  · rcases hk with rfl | rfl
    · go_enter Tryz.func195, Tryz.ntmps195
      go_wp2
      go_quiet (fail)
      go_wp2_with (first
        | (go_at_call 208; refine (scheck_any _ _ (hE.gr (by repeat (with_reducible first | assumption | exact Gr.refl _ | apply Gr.alloc | apply Gr.drewN | apply Gr.drew | apply Gr.iter | (refine Gr.setCell ?_ (by simp) _) | (refine Gr.trans ?_ (by assumption))))) ht.le).mono ?_; rintro e w' ⟨rfl, hg⟩; have hc0 := fun o => hg.cells w.heap.size o (by simp); have f1 := (hE.gr (w' := w') (by repeat (with_reducible first | assumption | exact Gr.refl _ | apply Gr.alloc | apply Gr.drewN | apply Gr.drew | apply Gr.iter | (refine Gr.setCell ?_ (by simp) _) | (refine Gr.trans ?_ (by assumption))))).e1)
        | (go_at_call 176; refine (acheck_any _ _ _ _ (hE.gr (by repeat (with_reducible first | assumption | exact Gr.refl _ | apply Gr.alloc | apply Gr.drewN | apply Gr.drew | apply Gr.iter | (refine Gr.setCell ?_ (by simp) _) | (refine Gr.trans ?_ (by assumption))))) (RdAttrs.gr hl (by repeat (with_reducible first | assumption | exact Gr.refl _ | apply Gr.alloc | apply Gr.drewN | apply Gr.drew | apply Gr.iter | (refine Gr.setCell ?_ (by simp) _) | (refine Gr.trans ?_ (by assumption)))))).mono ?_; rintro e w'' ⟨rfl, hg''⟩))
      all_goals go_ret
      all_goals refine ⟨ret_err ?_, (by repeat (with_reducible first | assumption | exact Gr.refl _ | apply Gr.alloc | apply Gr.drewN | apply Gr.drew | apply Gr.iter | (refine Gr.setCell ?_ (by simp) _) | (refine Gr.trans ?_ (by assumption))))⟩
      ((all_goals go_light); (all_goals (try simp_all [refuse, eqS, eqP, es, ep, utf8Err])); (all_goals (first | omega | rfl | (rw [Bool.eq_iff_iff]; simp; done) | (intros; omega) | (intros; simp_all; done) | (intros; simp_all; omega) | (split <;> simp_all; done) | (split <;> simp_all <;> omega))))
    · go_enter Tryz.func195, Tryz.ntmps195
      go_wp2
      go_quiet (fail)
      go_wp2_with (first
        | (go_at_call 208; refine (scheck_any _ _ (hE.gr (by repeat (with_reducible first | assumption | exact Gr.refl _ | apply Gr.alloc | apply Gr.drewN | apply Gr.drew | apply Gr.iter | (refine Gr.setCell ?_ (by simp) _) | (refine Gr.trans ?_ (by assumption))))) ht.le).mono ?_; rintro e w' ⟨rfl, hg⟩; have hc0 := fun o => hg.cells w.heap.size o (by simp); have f1 := (hE.gr (w' := w') (by repeat (with_reducible first | assumption | exact Gr.refl _ | apply Gr.alloc | apply Gr.drewN | apply Gr.drew | apply Gr.iter | (refine Gr.setCell ?_ (by simp) _) | (refine Gr.trans ?_ (by assumption))))).e1)
        | (go_at_call 209; refine (vcheck_any _ _ _ _ (hE.gr (by repeat (with_reducible first | assumption | exact Gr.refl _ | apply Gr.alloc | apply Gr.drewN | apply Gr.drew | apply Gr.iter | (refine Gr.setCell ?_ (by simp) _) | (refine Gr.trans ?_ (by assumption))))) hvt.le).mono ?_; rintro e w'' ⟨rfl, hg'⟩; have hc1 := fun o => hg'.cells w.heap.size o (by have := hg.size; simp at this; omega))
        | (go_at_call 176; refine (acheck_any _ _ _ _ (hE.gr (by repeat (with_reducible first | assumption | exact Gr.refl _ | apply Gr.alloc | apply Gr.drewN | apply Gr.drew | apply Gr.iter | (refine Gr.setCell ?_ (by simp) _) | (refine Gr.trans ?_ (by assumption))))) (RdAttrs.gr hl (by repeat (with_reducible first | assumption | exact Gr.refl _ | apply Gr.alloc | apply Gr.drewN | apply Gr.drew | apply Gr.iter | (refine Gr.setCell ?_ (by simp) _) | (refine Gr.trans ?_ (by assumption)))))).mono ?_; rintro e w'' ⟨rfl, hg''⟩))
      all_goals go_ret
      all_goals refine ⟨ret_err ?_, (by repeat (with_reducible first | assumption | exact Gr.refl _ | apply Gr.alloc | apply Gr.drewN | apply Gr.drew | apply Gr.iter | (refine Gr.setCell ?_ (by simp) _) | (refine Gr.trans ?_ (by assumption))))⟩
      ((all_goals go_light); (all_goals (try simp_all [refuse, eqS, eqP, es, ep, utf8Err])); (all_goals (first | omega | rfl | (rw [Bool.eq_iff_iff]; simp; done) | (intros; omega) | (intros; simp_all; done) | (intros; simp_all; omega) | (split <;> simp_all; done) | (split <;> simp_all <;> omega))))
  · have k1 : (k == 1) = false := by simp; omega
    have k2 : (k == 2) = false := by simp; omega
    go_enter Tryz.func195, Tryz.ntmps195
    go_wp2
    go_quiet (fail)
    go_wp2
    go_ret
    refine ⟨ret_err ?_, (by repeat (with_reducible first | assumption | exact Gr.refl _ | apply Gr.alloc | apply Gr.drewN | apply Gr.drew | apply Gr.iter | (refine Gr.setCell ?_ (by simp) _) | (refine Gr.trans ?_ (by assumption))))⟩
    simp [refuse]; omega
end Ve
/- Walks of layers 4 and 5, the program's side: content.Of, ops.has, piece, Check, Of. -/
namespace Ve
open Go Go.RowKit Go.Proofs

theorem refuse_text {k : Int} {t : ByteArray} {v : Plain} {c : Int} {l : List Attr} (h : refuse ⟨k, t, v, c, l⟩ = 0) : (k = 1 ∨ k = 2) ∧ brk t = t.size ∧ (k = 2 → checkPlain v = 0) := by
  unfold refuse at h
  repeat' split at h
  all_goals simp_all
  all_goals omega
set_option maxHeartbeats 2000000 in
theorem cof_any {ea : Nat → Addr} (k : Int) (t : ByteArray) (va vb : Int) (vt : ByteArray) (c : Int) (sl : Value) (l : List Attr) (w : World) (hE : Env ea w) (hl : RdAttrs w sl l) (ht : szS t) (hvt : szS vt) :
    Calls Tryz.prog 175 #[.agg #[.int .i64 k, .string t, .int .i64 va, .int .i64 vb, .string vt, .int .i64 c, sl]] w (PieceRes ea (refuse ⟨k, t, ⟨va, vb, vt⟩, c, l⟩) (toPiece ⟨k, t, ⟨va, vb, vt⟩, c, l⟩) w) := by
  obtain ⟨a, cap, rfl, -, -, hb⟩ := hl.slice
  obtain ⟨R, hR⟩ : ∃ R, refuse ⟨k, t, ⟨va, vb, vt⟩, c, l⟩ = R := ⟨_, rfl⟩
  rw [hR]
  have HR := Lib.hid hR; clear hR
  by_cases h0 : R = 0
  · have hT := refuse_text (HR.out.trans h0)
    have c0 : decide (R = 0) = true := by simpa using h0
    have H0 := Lib.hid h0; clear h0
    obtain ⟨hk, hbr, hval⟩ := hT
    have u0 : decide (utf8Err t = 0) = true := by simp [utf8Err_zero, hbr]
    rcases hk with rfl | rfl
    · have HB := Lib.hid hbr; clear hbr hval
      go_enter Tryz.func175, Tryz.ntmps175
      go_wp2_with (first
        | (go_at_call 195; refine (refuse_any _ _ _ _ _ _ _ _ _ (hE.gr (by repeat (with_reducible first | assumption | exact Gr.refl _ | apply Gr.alloc | apply Gr.drewN | apply Gr.drew | apply Gr.iter | (refine Gr.setCell ?_ (by simp) _) | (refine Gr.trans ?_ (by assumption))))) (RdAttrs.gr hl (by repeat (with_reducible first | assumption | exact Gr.refl _ | apply Gr.alloc | apply Gr.drewN | apply Gr.drew | apply Gr.iter | (refine Gr.setCell ?_ (by simp) _) | (refine Gr.trans ?_ (by assumption))))) ht hvt).mono ?_; rw [HR.out]; rintro e w' ⟨rfl, hg⟩; have hc0 := fun o => hg.cells w.heap.size o (by simp))
        | (go_at_call 196; refine (copied_any l _ _ (RdAttrs.gr hl (by repeat (with_reducible first | assumption | exact Gr.refl _ | apply Gr.alloc | apply Gr.drewN | apply Gr.drew | apply Gr.iter | (refine Gr.setCell ?_ (by simp) _) | (refine Gr.trans ?_ (by assumption)))))).mono ?_; rintro e w'' ⟨v', rfl, ho, hg'⟩; obtain ⟨a', c', rfl, -⟩ := ho.slice; have hc1 := fun o => hg'.cells w.heap.size o hg.lt; have hw : w.heap.size < w''.heap.size := Nat.lt_of_lt_of_le hg.lt hg'.size)
        | (go_at_call 197; refine (slen_any _ _ (hE.gr (by repeat (with_reducible first | assumption | exact Gr.refl _ | apply Gr.alloc | apply Gr.drewN | apply Gr.drew | apply Gr.iter | (refine Gr.setCell ?_ (by simp) _) | (refine Gr.trans ?_ (by assumption))))) ht.lt).mono ?_; rintro e w3 ⟨rfl, hg3⟩; have hc2 := fun o => hg3.cells w.heap.size o (by simp only [World.size_alloc]; omega); have hc3 := fun o => hg3.cells w''.heap.size o (by simp)))
      go_ret2
      refine ⟨_, ret_two rfl ?_, (by repeat (with_reducible first | assumption | exact Gr.refl _ | apply Gr.alloc | apply Gr.drewN | apply Gr.drew | apply Gr.iter | (refine Gr.setCell ?_ (by simp) _) | (refine Gr.trans ?_ (by assumption)))), fun _ => ?_, fun h => absurd H0.out h⟩
      · rw [H0.out, errOf_zero]; rfl
      · refine ⟨⟨.slice a' l.length c', ?_, ⟨OwnL.gr (w := w'') (ho.base_le (Nat.zero_le _)) (fun _ _ h => h) (by repeat (with_reducible first | assumption | exact Gr.refl _ | apply Gr.alloc | apply Gr.drewN | apply Gr.drew | apply Gr.iter | (refine Gr.setCell ?_ (by simp) _) | (refine Gr.trans ?_ (by assumption)))), hb⟩, ht⟩, fun b hb' => Nat.le_trans (Gr.size (w := w) (by repeat (with_reducible first | assumption | exact Gr.refl _ | apply Gr.alloc | apply Gr.drewN | apply Gr.drew | apply Gr.iter | (refine Gr.setCell ?_ (by simp) _) | (refine Gr.trans ?_ (by assumption))))) (own_lo ho b hb')⟩
        rw [lenS_ok HB.out]; rfl
    · have c1 := hval rfl
      obtain ⟨T, y, hv⟩ := valV_form ⟨va, vb, vt⟩
      have HV := Lib.hid hv; clear hv
      have HC := Lib.hid c1; clear c1
      clear hval hbr
      go_enter Tryz.func175, Tryz.ntmps175
      go_wp2_with (first
        | (go_at_call 195; refine (refuse_any _ _ _ _ _ _ _ _ _ (hE.gr (by repeat (with_reducible first | assumption | exact Gr.refl _ | apply Gr.alloc | apply Gr.drewN | apply Gr.drew | apply Gr.iter | (refine Gr.setCell ?_ (by simp) _) | (refine Gr.trans ?_ (by assumption))))) (RdAttrs.gr hl (by repeat (with_reducible first | assumption | exact Gr.refl _ | apply Gr.alloc | apply Gr.drewN | apply Gr.drew | apply Gr.iter | (refine Gr.setCell ?_ (by simp) _) | (refine Gr.trans ?_ (by assumption))))) ht hvt).mono ?_; rw [HR.out]; rintro e w' ⟨rfl, hg⟩; have hc0 := fun o => hg.cells w.heap.size o (by simp))
        | (go_at_call 196; refine (copied_any l _ _ (RdAttrs.gr hl (by repeat (with_reducible first | assumption | exact Gr.refl _ | apply Gr.alloc | apply Gr.drewN | apply Gr.drew | apply Gr.iter | (refine Gr.setCell ?_ (by simp) _) | (refine Gr.trans ?_ (by assumption)))))).mono ?_; rintro e w'' ⟨v', rfl, ho, hg'⟩; obtain ⟨a', c', rfl, -⟩ := ho.slice; have hc1 := fun o => hg'.cells w.heap.size o hg.lt; have hw : w.heap.size < w''.heap.size := Nat.lt_of_lt_of_le hg.lt hg'.size)
        | (go_at_call 198; refine (vof_any _ _ _ _ (hE.gr (by repeat (with_reducible first | assumption | exact Gr.refl _ | apply Gr.alloc | apply Gr.drewN | apply Gr.drew | apply Gr.iter | (refine Gr.setCell ?_ (by simp) _) | (refine Gr.trans ?_ (by assumption))))) hvt.le).mono ?_; rw [HC.out, orNil_zero, HV.out, errOf_zero]; rintro e w3 ⟨rfl, hg3⟩; have hc2 := fun o => hg3.cells w.heap.size o (by simp only [World.size_alloc]; omega); have hc3 := fun o => hg3.cells w''.heap.size o (by simp)))
      go_ret2
      refine ⟨_, ret_two rfl ?_, (by repeat (with_reducible first | assumption | exact Gr.refl _ | apply Gr.alloc | apply Gr.drewN | apply Gr.drew | apply Gr.iter | (refine Gr.setCell ?_ (by simp) _) | (refine Gr.trans ?_ (by assumption)))), fun _ => ?_, fun h => absurd H0.out h⟩
      · rw [H0.out, errOf_zero]; rfl
      · refine ⟨⟨.slice a' l.length c', ?_, ⟨OwnL.gr (w := w'') (ho.base_le (Nat.zero_le _)) (fun _ _ h => h) (by repeat (with_reducible first | assumption | exact Gr.refl _ | apply Gr.alloc | apply Gr.drewN | apply Gr.drew | apply Gr.iter | (refine Gr.setCell ?_ (by simp) _) | (refine Gr.trans ?_ (by assumption)))), hb⟩, ht, hvt⟩, fun b hb' => Nat.le_trans (Gr.size (w := w) (by repeat (with_reducible first | assumption | exact Gr.refl _ | apply Gr.alloc | apply Gr.drewN | apply Gr.drew | apply Gr.iter | (refine Gr.setCell ?_ (by simp) _) | (refine Gr.trans ?_ (by assumption))))) (own_lo ho b hb')⟩
        rw [HV.out]; rfl
  · have c0 : decide (R = 0) = false := by simpa using h0
    have H0 := Lib.hid h0; clear h0
    go_enter Tryz.func175, Tryz.ntmps175
    go_wp2_with (go_at_call 195; refine (refuse_any _ _ _ _ _ _ _ _ _ (hE.gr (by repeat (with_reducible first | assumption | exact Gr.refl _ | apply Gr.alloc | apply Gr.drewN | apply Gr.drew | apply Gr.iter | (refine Gr.setCell ?_ (by simp) _) | (refine Gr.trans ?_ (by assumption))))) (RdAttrs.gr hl (by repeat (with_reducible first | assumption | exact Gr.refl _ | apply Gr.alloc | apply Gr.drewN | apply Gr.drew | apply Gr.iter | (refine Gr.setCell ?_ (by simp) _) | (refine Gr.trans ?_ (by assumption))))) ht hvt).mono ?_; rw [HR.out]; rintro e w' ⟨rfl, hg⟩; have hc0 := fun o => hg.cells w.heap.size o (by simp))
    go_ret2
    exact ⟨.nilIface, rfl, (by repeat (with_reducible first | assumption | exact Gr.refl _ | apply Gr.alloc | apply Gr.drewN | apply Gr.drew | apply Gr.iter | (refine Gr.setCell ?_ (by simp) _) | (refine Gr.trans ?_ (by assumption)))), fun h => absurd h H0.out, fun _ => rfl⟩
end Ve
