import Derived.Test.YtnlpmajiccliiaaGreatDoorG3
import Derived.Deep.RegionWith
import Derived.Deep.RegionHeld3
set_option linter.all false
/- Walks of layer 4, the program's side: copies of attributes, content.refuse, Of. -/
namespace Ve
open Go Go.RowKit Go.Proofs

theorem info_attr : (Tryz.prog.info? 176).map (fun i => (i.zero, i.size, i.bytes)) = some (some (.agg #[.string ⟨#[]⟩, .int .i64 0, .int .i64 0, .string ⟨#[]⟩]), 4, 48) := by kernel_rfl
theorem app_attr (w : World) (base : Nat) (ty : TypeId) {v x : Value} {l m : List Attr} (hown : OwnL AttrR 4 base 176 w v l) (hx : RdAttrs w x m) (hm : l.length + m.length ≤ 1099511627776) (hb : base ≤ w.heap.size) :
    ∃ v' w', (Builtin.append_ #[61, 61] ty #[v, x]).run Tryz.prog w = .ok v' w' ∧ OwnL AttrR 4 base 176 w' v' (l ++ m) ∧ w.grownBy w' v.ownBlock ∧ (v'.ownBlock = v.ownBlock ∨ v'.ownBlock = some w.heap.size) :=
  run_appL w base _ ty _ _ 4 48 Tryz.underlying61 info_attr rfl (by omega) (by omega) (AttrR.flat w) hown hx hm hb (fun _ _ _ _ h => h)
set_option maxHeartbeats 400000 in
theorem copied_any (l : List Attr) (v : Value) (w : World) (hl : RdAttrs w v l) :
    Calls Tryz.prog 191 #[v] w fun e w' => ∃ v', e = .returned v' ∧ OwnL AttrR 4 w.heap.size 176 w' v' l ∧ Gr w w' := by
  obtain ⟨v', w', hrun, hown, hg, -⟩ := app_attr w w.heap.size 61 (OwnL.nil w AttrR 4 w.heap.size 176) hl (by have := hl.slice; obtain ⟨_, _, _, _, _, h⟩ := this; simpa using h) (Nat.le_refl _)
  have Hg := Lib.hid hg; clear hg
  have Ho := Lib.hid hown; clear hown
  obtain ⟨a, cap, rfl, -⟩ := hl.slice
  have HH := Lib.hid hrun; clear hrun
  go_enter Tryz.func191, Tryz.ntmps191
  go_wp2_with (at_builtin; refine wpList_run rfl _ _ _ rfl rfl rfl HH.out ?_)
  go_ret
  exact ⟨_, rfl, Ho.out, (Gr.refl w).grown Hg.out (by simp [Value.ownBlock])⟩
set_option maxHeartbeats 400000 in
theorem cloneA_any (l : List Attr) (v : Value) (w : World) (hl : RdAttrs w v l) :
    Calls Tryz.prog 177 #[v] w fun e w' => ∃ v', e = .returned v' ∧ OwnL AttrR 4 w.heap.size 176 w' v' l ∧ Gr w w' := by
  obtain ⟨a, cap, rfl, -, -, hb⟩ := hl.slice
  cases a with
  | none =>
    obtain rfl := hl.none_nil
    clear hl hb
    go_enter Tryz.func177, Tryz.ntmps177
    go_wp2
    go_ret
    exact ⟨_, rfl, OwnL.nil .., Gr.refl _⟩
  | some a =>
    obtain ⟨v', w', hrun, hown, hg, hw⟩ := app_attr (w.alloc (.cells #[] 176)) w.heap.size 61 (OwnL.made w AttrR 4 w.heap.size 176 (Nat.le_refl _)) (RdAttrs.gr hl (by repeat (with_reducible first | assumption | exact Gr.refl _ | apply Gr.alloc | apply Gr.drewN | apply Gr.drew | apply Gr.iter | (refine Gr.setCell ?_ (by simp) _) | (refine Gr.trans ?_ (by assumption))))) (by simpa using hb) (by simp)
    have Hg := Lib.hid (And.intro hg hw); clear hg hw
    have Ho := Lib.hid hown; clear hown
    have HH := Lib.hid hrun; clear hrun
    go_enter Tryz.func177, Tryz.ntmps177
    go_wp2_with (at_builtin; refine wpList_run rfl _ _ _ rfl rfl rfl HH.out ?_)
    go_ret
    exact ⟨_, rfl, Ho.out, ((Gr.refl w).alloc _).grown Hg.out.1 (by simp [Value.ownBlock])⟩
set_option maxHeartbeats 2000000 in
theorem refuse_any {ea : Nat → Addr} (k : Int) (t : ByteArray) (va vb : Int) (vt : ByteArray) (c : Int) (sl : Value) (l : List Attr) (w : World) (hE : Env ea w) (hl : RdAttrs w sl l) (ht : szS t) (hvt : szS vt) :
    Calls Tryz.prog 190 #[.agg #[.int .i64 k, .string t, .int .i64 va, .int .i64 vb, .string vt, .int .i64 c, sl]] w fun e w' => e = .returned (errOf ea (refuse ⟨k, t, ⟨va, vb, vt⟩, c, l⟩)) ∧ Gr w w' := by
  have e5 := hE.e5; have z5 := cell_lt e5; have e6 := hE.e6; have z6 := cell_lt e6; have e9 := hE.e9; have z9 := cell_lt e9; have e1 := hE.e1; have z1 := cell_lt e1
  obtain ⟨a, cap, rfl, -⟩ := hl.slice
  by_cases hk : k = 1 ∨ k = 2
  · rcases hk with rfl | rfl
    · go_enter Tryz.func190, Tryz.ntmps190
      go_wp2
      go_quiet (fail)
      go_wp2_with (first
        | (go_at_call 199; refine (scheck_any _ _ (hE.gr (by repeat (with_reducible first | assumption | exact Gr.refl _ | apply Gr.alloc | apply Gr.drewN | apply Gr.drew | apply Gr.iter | (refine Gr.setCell ?_ (by simp) _) | (refine Gr.trans ?_ (by assumption))))) ht.le).mono ?_; rintro e w' ⟨rfl, hg⟩; have hc0 := fun o => hg.cells w.heap.size o (by simp); have f1 := (hE.gr (w' := w') (by repeat (with_reducible first | assumption | exact Gr.refl _ | apply Gr.alloc | apply Gr.drewN | apply Gr.drew | apply Gr.iter | (refine Gr.setCell ?_ (by simp) _) | (refine Gr.trans ?_ (by assumption))))).e1)
        | (go_at_call 176; refine (acheck_any _ _ _ _ (hE.gr (by repeat (with_reducible first | assumption | exact Gr.refl _ | apply Gr.alloc | apply Gr.drewN | apply Gr.drew | apply Gr.iter | (refine Gr.setCell ?_ (by simp) _) | (refine Gr.trans ?_ (by assumption))))) (RdAttrs.gr hl (by repeat (with_reducible first | assumption | exact Gr.refl _ | apply Gr.alloc | apply Gr.drewN | apply Gr.drew | apply Gr.iter | (refine Gr.setCell ?_ (by simp) _) | (refine Gr.trans ?_ (by assumption)))))).mono ?_; rintro e w'' ⟨rfl, hg''⟩))
      all_goals go_ret
      all_goals refine ⟨ret_err ?_, (by repeat (with_reducible first | assumption | exact Gr.refl _ | apply Gr.alloc | apply Gr.drewN | apply Gr.drew | apply Gr.iter | (refine Gr.setCell ?_ (by simp) _) | (refine Gr.trans ?_ (by assumption))))⟩
      ((all_goals go_light); (all_goals (try simp_all [refuse, eqS, eqP, es, ep, utf8Err])); (all_goals (first | omega | rfl | (rw [Bool.eq_iff_iff]; simp; done) | (intros; omega) | (intros; simp_all; done) | (intros; simp_all; omega) | (split <;> simp_all; done) | (split <;> simp_all <;> omega))))
    · go_enter Tryz.func190, Tryz.ntmps190
      go_wp2
      go_quiet (fail)
      go_wp2_with (first
        | (go_at_call 199; refine (scheck_any _ _ (hE.gr (by repeat (with_reducible first | assumption | exact Gr.refl _ | apply Gr.alloc | apply Gr.drewN | apply Gr.drew | apply Gr.iter | (refine Gr.setCell ?_ (by simp) _) | (refine Gr.trans ?_ (by assumption))))) ht.le).mono ?_; rintro e w' ⟨rfl, hg⟩; have hc0 := fun o => hg.cells w.heap.size o (by simp); have f1 := (hE.gr (w' := w') (by repeat (with_reducible first | assumption | exact Gr.refl _ | apply Gr.alloc | apply Gr.drewN | apply Gr.drew | apply Gr.iter | (refine Gr.setCell ?_ (by simp) _) | (refine Gr.trans ?_ (by assumption))))).e1)
        | (go_at_call 200; refine (vcheck_any _ _ _ _ (hE.gr (by repeat (with_reducible first | assumption | exact Gr.refl _ | apply Gr.alloc | apply Gr.drewN | apply Gr.drew | apply Gr.iter | (refine Gr.setCell ?_ (by simp) _) | (refine Gr.trans ?_ (by assumption))))) hvt.le).mono ?_; rintro e w'' ⟨rfl, hg'⟩; have hc1 := fun o => hg'.cells w.heap.size o (by have := hg.size; simp at this; omega))
        | (go_at_call 176; refine (acheck_any _ _ _ _ (hE.gr (by repeat (with_reducible first | assumption | exact Gr.refl _ | apply Gr.alloc | apply Gr.drewN | apply Gr.drew | apply Gr.iter | (refine Gr.setCell ?_ (by simp) _) | (refine Gr.trans ?_ (by assumption))))) (RdAttrs.gr hl (by repeat (with_reducible first | assumption | exact Gr.refl _ | apply Gr.alloc | apply Gr.drewN | apply Gr.drew | apply Gr.iter | (refine Gr.setCell ?_ (by simp) _) | (refine Gr.trans ?_ (by assumption)))))).mono ?_; rintro e w'' ⟨rfl, hg''⟩))
      all_goals go_ret
      all_goals refine ⟨ret_err ?_, (by repeat (with_reducible first | assumption | exact Gr.refl _ | apply Gr.alloc | apply Gr.drewN | apply Gr.drew | apply Gr.iter | (refine Gr.setCell ?_ (by simp) _) | (refine Gr.trans ?_ (by assumption))))⟩
      ((all_goals go_light); (all_goals (try simp_all [refuse, eqS, eqP, es, ep, utf8Err])); (all_goals (first | omega | rfl | (rw [Bool.eq_iff_iff]; simp; done) | (intros; omega) | (intros; simp_all; done) | (intros; simp_all; omega) | (split <;> simp_all; done) | (split <;> simp_all <;> omega))))
  · have k1 : (k == 1) = false := by simp; omega
    have k2 : (k == 2) = false := by simp; omega
    go_enter Tryz.func190, Tryz.ntmps190
    go_wp2
    go_quiet (fail)
    go_wp2
    go_ret
    refine ⟨ret_err ?_, (by repeat (with_reducible first | assumption | exact Gr.refl _ | apply Gr.alloc | apply Gr.drewN | apply Gr.drew | apply Gr.iter | (refine Gr.setCell ?_ (by simp) _) | (refine Gr.trans ?_ (by assumption))))⟩
    simp [refuse]; omega
end Ve
/- Walks of layers 4 and 5, the program's side: content.Of, ops.has, piece, Check, Of. -/
namespace Ve
open Go Go.RowKit Go.Proofs

theorem refuse_text {k : Int} {t : ByteArray} {v : Plain} {c : Int} {l : List Attr} (h : refuse ⟨k, t, v, c, l⟩ = 0) : (k = 1 ∨ k = 2) ∧ brk t = t.size ∧ (k = 2 → checkPlain v = 0) := by
  unfold refuse at h
  repeat' split at h
  all_goals simp_all
  all_goals omega
set_option maxHeartbeats 2000000 in
theorem cof_any {ea : Nat → Addr} (k : Int) (t : ByteArray) (va vb : Int) (vt : ByteArray) (c : Int) (sl : Value) (l : List Attr) (w : World) (hE : Env ea w) (hl : RdAttrs w sl l) (ht : szS t) (hvt : szS vt) :
    Calls Tryz.prog 175 #[.agg #[.int .i64 k, .string t, .int .i64 va, .int .i64 vb, .string vt, .int .i64 c, sl]] w (PieceRes ea (refuse ⟨k, t, ⟨va, vb, vt⟩, c, l⟩) (toPiece ⟨k, t, ⟨va, vb, vt⟩, c, l⟩) w) := by
  obtain ⟨a, cap, rfl, -, -, hb⟩ := hl.slice
  obtain ⟨R, hR⟩ : ∃ R, refuse ⟨k, t, ⟨va, vb, vt⟩, c, l⟩ = R := ⟨_, rfl⟩
  rw [hR]
  have HR := Lib.hid hR; clear hR
  by_cases h0 : R = 0
  · have hT := refuse_text (HR.out.trans h0)
    have c0 : decide (R = 0) = true := by simpa using h0
    have H0 := Lib.hid h0; clear h0
    obtain ⟨hk, hbr, hval⟩ := hT
    have u0 : decide (utf8Err t = 0) = true := by simp [utf8Err_zero, hbr]
    rcases hk with rfl | rfl
    · have HB := Lib.hid hbr; clear hbr hval
      go_enter Tryz.func175, Tryz.ntmps175
      go_wp2_with (first
        | (go_at_call 190; refine (refuse_any _ _ _ _ _ _ _ _ _ (hE.gr (by repeat (with_reducible first | assumption | exact Gr.refl _ | apply Gr.alloc | apply Gr.drewN | apply Gr.drew | apply Gr.iter | (refine Gr.setCell ?_ (by simp) _) | (refine Gr.trans ?_ (by assumption))))) (RdAttrs.gr hl (by repeat (with_reducible first | assumption | exact Gr.refl _ | apply Gr.alloc | apply Gr.drewN | apply Gr.drew | apply Gr.iter | (refine Gr.setCell ?_ (by simp) _) | (refine Gr.trans ?_ (by assumption))))) ht hvt).mono ?_; rw [HR.out]; rintro e w' ⟨rfl, hg⟩; have hc0 := fun o => hg.cells w.heap.size o (by simp))
        | (go_at_call 191; refine (copied_any l _ _ (RdAttrs.gr hl (by repeat (with_reducible first | assumption | exact Gr.refl _ | apply Gr.alloc | apply Gr.drewN | apply Gr.drew | apply Gr.iter | (refine Gr.setCell ?_ (by simp) _) | (refine Gr.trans ?_ (by assumption)))))).mono ?_; rintro e w'' ⟨v', rfl, ho, hg'⟩; obtain ⟨a', c', rfl, -⟩ := ho.slice; have hc1 := fun o => hg'.cells w.heap.size o hg.lt; have hw : w.heap.size < w''.heap.size := Nat.lt_of_lt_of_le hg.lt hg'.size)
        | (go_at_call 192; refine (slen_any _ _ (hE.gr (by repeat (with_reducible first | assumption | exact Gr.refl _ | apply Gr.alloc | apply Gr.drewN | apply Gr.drew | apply Gr.iter | (refine Gr.setCell ?_ (by simp) _) | (refine Gr.trans ?_ (by assumption))))) ht.lt).mono ?_; rintro e w3 ⟨rfl, hg3⟩; have hc2 := fun o => hg3.cells w.heap.size o (by simp only [World.size_alloc]; omega); have hc3 := fun o => hg3.cells w''.heap.size o (by simp)))
      go_ret2
      refine ⟨_, ret_two rfl ?_, (by repeat (with_reducible first | assumption | exact Gr.refl _ | apply Gr.alloc | apply Gr.drewN | apply Gr.drew | apply Gr.iter | (refine Gr.setCell ?_ (by simp) _) | (refine Gr.trans ?_ (by assumption)))), fun _ => ?_, fun h => absurd H0.out h⟩
      · rw [H0.out, errOf_zero]; rfl
      · refine ⟨⟨.slice a' l.length c', ?_, ⟨OwnL.gr (w := w'') (ho.base_le (Nat.zero_le _)) (fun _ _ h => h) (by repeat (with_reducible first | assumption | exact Gr.refl _ | apply Gr.alloc | apply Gr.drewN | apply Gr.drew | apply Gr.iter | (refine Gr.setCell ?_ (by simp) _) | (refine Gr.trans ?_ (by assumption)))), hb⟩, ht⟩, fun b hb' => Nat.le_trans (Gr.size (w := w) (by repeat (with_reducible first | assumption | exact Gr.refl _ | apply Gr.alloc | apply Gr.drewN | apply Gr.drew | apply Gr.iter | (refine Gr.setCell ?_ (by simp) _) | (refine Gr.trans ?_ (by assumption))))) (own_lo ho b hb')⟩
        rw [lenS_ok HB.out]; rfl
    · have c1 := hval rfl
      obtain ⟨T, y, hv⟩ := valV_form ⟨va, vb, vt⟩
      have HV := Lib.hid hv; clear hv
      have HC := Lib.hid c1; clear c1
      clear hval hbr
      go_enter Tryz.func175, Tryz.ntmps175
      go_wp2_with (first
        | (go_at_call 190; refine (refuse_any _ _ _ _ _ _ _ _ _ (hE.gr (by repeat (with_reducible first | assumption | exact Gr.refl _ | apply Gr.alloc | apply Gr.drewN | apply Gr.drew | apply Gr.iter | (refine Gr.setCell ?_ (by simp) _) | (refine Gr.trans ?_ (by assumption))))) (RdAttrs.gr hl (by repeat (with_reducible first | assumption | exact Gr.refl _ | apply Gr.alloc | apply Gr.drewN | apply Gr.drew | apply Gr.iter | (refine Gr.setCell ?_ (by simp) _) | (refine Gr.trans ?_ (by assumption))))) ht hvt).mono ?_; rw [HR.out]; rintro e w' ⟨rfl, hg⟩; have hc0 := fun o => hg.cells w.heap.size o (by simp))
        | (go_at_call 191; refine (copied_any l _ _ (RdAttrs.gr hl (by repeat (with_reducible first | assumption | exact Gr.refl _ | apply Gr.alloc | apply Gr.drewN | apply Gr.drew | apply Gr.iter | (refine Gr.setCell ?_ (by simp) _) | (refine Gr.trans ?_ (by assumption)))))).mono ?_; rintro e w'' ⟨v', rfl, ho, hg'⟩; obtain ⟨a', c', rfl, -⟩ := ho.slice; have hc1 := fun o => hg'.cells w.heap.size o hg.lt; have hw : w.heap.size < w''.heap.size := Nat.lt_of_lt_of_le hg.lt hg'.size)
        | (go_at_call 193; refine (vof_any _ _ _ _ (hE.gr (by repeat (with_reducible first | assumption | exact Gr.refl _ | apply Gr.alloc | apply Gr.drewN | apply Gr.drew | apply Gr.iter | (refine Gr.setCell ?_ (by simp) _) | (refine Gr.trans ?_ (by assumption))))) hvt.le).mono ?_; rw [HC.out, orNil_zero, HV.out, errOf_zero]; rintro e w3 ⟨rfl, hg3⟩; have hc2 := fun o => hg3.cells w.heap.size o (by simp only [World.size_alloc]; omega); have hc3 := fun o => hg3.cells w''.heap.size o (by simp)))
      go_ret2
      refine ⟨_, ret_two rfl ?_, (by repeat (with_reducible first | assumption | exact Gr.refl _ | apply Gr.alloc | apply Gr.drewN | apply Gr.drew | apply Gr.iter | (refine Gr.setCell ?_ (by simp) _) | (refine Gr.trans ?_ (by assumption)))), fun _ => ?_, fun h => absurd H0.out h⟩
      · rw [H0.out, errOf_zero]; rfl
      · refine ⟨⟨.slice a' l.length c', ?_, ⟨OwnL.gr (w := w'') (ho.base_le (Nat.zero_le _)) (fun _ _ h => h) (by repeat (with_reducible first | assumption | exact Gr.refl _ | apply Gr.alloc | apply Gr.drewN | apply Gr.drew | apply Gr.iter | (refine Gr.setCell ?_ (by simp) _) | (refine Gr.trans ?_ (by assumption)))), hb⟩, ht, hvt⟩, fun b hb' => Nat.le_trans (Gr.size (w := w) (by repeat (with_reducible first | assumption | exact Gr.refl _ | apply Gr.alloc | apply Gr.drewN | apply Gr.drew | apply Gr.iter | (refine Gr.setCell ?_ (by simp) _) | (refine Gr.trans ?_ (by assumption))))) (own_lo ho b hb')⟩
        rw [HV.out]; rfl
  · have c0 : decide (R = 0) = false := by simpa using h0
    have H0 := Lib.hid h0; clear h0
    go_enter Tryz.func175, Tryz.ntmps175
    go_wp2_with (go_at_call 190; refine (refuse_any _ _ _ _ _ _ _ _ _ (hE.gr (by repeat (with_reducible first | assumption | exact Gr.refl _ | apply Gr.alloc | apply Gr.drewN | apply Gr.drew | apply Gr.iter | (refine Gr.setCell ?_ (by simp) _) | (refine Gr.trans ?_ (by assumption))))) (RdAttrs.gr hl (by repeat (with_reducible first | assumption | exact Gr.refl _ | apply Gr.alloc | apply Gr.drewN | apply Gr.drew | apply Gr.iter | (refine Gr.setCell ?_ (by simp) _) | (refine Gr.trans ?_ (by assumption))))) ht hvt).mono ?_; rw [HR.out]; rintro e w' ⟨rfl, hg⟩; have hc0 := fun o => hg.cells w.heap.size o (by simp))
    go_ret2
    exact ⟨.nilIface, rfl, (by repeat (with_reducible first | assumption | exact Gr.refl _ | apply Gr.alloc | apply Gr.drewN | apply Gr.drew | apply Gr.iter | (refine Gr.setCell ?_ (by simp) _) | (refine Gr.trans ?_ (by assumption)))), fun h => absurd h H0.out, fun _ => rfl⟩
end Ve
/- Walks of layer 5, the program's side: ops.has, piece, Check, Of. -/
namespace Ve
open Go Go.RowKit Go.Proofs

set_option maxHeartbeats 1000000 in
theorem has_any (k : Int) (t : ByteArray) (va vb : Int) (vt : ByteArray) (c : Int) (sl : Value) (l : List Attr) (w : World) (hl : RdAttrs w sl l) :
    Calls Tryz.prog 174 #[.agg #[.int .i64 k, .string t, .int .i64 va, .int .i64 vb, .string vt, .int .i64 c, sl]] w fun e w' => e = .returned (.bool (hasOnly ⟨k, t, ⟨va, vb, vt⟩, c, l⟩)) ∧ Gr w w' := by
  obtain ⟨a, cap, rfl, -, -, hb⟩ := hl.slice
  go_enter Tryz.func174, Tryz.ntmps174
  go_wp2
  go_quiet (fail)
  go_wp2
  all_goals go_ret
  all_goals refine ⟨ret_bool ?_, (by repeat (with_reducible first | assumption | exact Gr.refl _ | apply Gr.alloc | apply Gr.drewN | apply Gr.drew | apply Gr.iter | (refine Gr.setCell ?_ (by simp) _) | (refine Gr.trans ?_ (by assumption))))⟩
  ((all_goals go_light); (all_goals (try simp_all [hasOnly, eqS, eqP, es, ep])); (all_goals (first | omega | rfl | (rw [Bool.eq_iff_iff]; simp; done) | (intros; omega) | (intros; simp_all; done) | (intros; simp_all; omega) | (split <;> simp_all; done) | (split <;> simp_all <;> omega))))
set_option maxHeartbeats 2000000 in
theorem piece_any {ea : Nat → Addr} (k : Int) (t : ByteArray) (va vb : Int) (vt : ByteArray) (c : Int) (sl : Value) (l : List Attr) (w : World) (hE : Env ea w) (hl : RdAttrs w sl l) (ht : szS t) (hvt : szS vt) :
    Calls Tryz.prog 156 #[.agg #[.int .i64 k, .string t, .int .i64 va, .int .i64 vb, .string vt, .int .i64 c, sl]] w (PieceRes ea (checkOp ⟨k, t, ⟨va, vb, vt⟩, c, l⟩) (toPiece ⟨k, t, ⟨va, vb, vt⟩, c, l⟩) w) := by
  obtain ⟨a, cap, rfl, -, -, hb⟩ := hl.slice
  have e9 := hE.e9; have z9 := cell_lt e9; have e11 := hE.e11; have z11 := cell_lt e11
  cases hh : hasOnly ⟨k, t, ⟨va, vb, vt⟩, c, l⟩ with
  | false =>
    have HH := Lib.hid hh; clear hh
    go_enter Tryz.func156, Tryz.ntmps156
    go_wp2_with (go_at_call 174; refine (has_any _ _ _ _ _ _ _ _ _ (RdAttrs.gr hl (by repeat (with_reducible first | assumption | exact Gr.refl _ | apply Gr.alloc | apply Gr.drewN | apply Gr.drew | apply Gr.iter | (refine Gr.setCell ?_ (by simp) _) | (refine Gr.trans ?_ (by assumption)))))).mono ?_; rw [HH.out]; rintro e w' ⟨rfl, hg⟩; have f9 := (hE.gr (w' := w') (by repeat (with_reducible first | assumption | exact Gr.refl _ | apply Gr.alloc | apply Gr.drewN | apply Gr.drew | apply Gr.iter | (refine Gr.setCell ?_ (by simp) _) | (refine Gr.trans ?_ (by assumption))))).e9)
    go_quiet (fail)
    go_wp2
    go_ret2
    have hc : checkOp ⟨k, t, ⟨va, vb, vt⟩, c, l⟩ = 9 := by simp [checkOp, HH.out]
    rw [hc]
    exact ⟨.nilIface, ret_two rfl rfl, (by repeat (with_reducible first | assumption | exact Gr.refl _ | apply Gr.alloc | apply Gr.drewN | apply Gr.drew | apply Gr.iter | (refine Gr.setCell ?_ (by simp) _) | (refine Gr.trans ?_ (by assumption)))), fun h => absurd h (by omega), fun _ => rfl⟩
  | true =>
    have HH := Lib.hid hh; clear hh
    by_cases hk : k = 1 ∨ k = 2
    · have hc : checkOp ⟨k, t, ⟨va, vb, vt⟩, c, l⟩ = refuse ⟨k, t, ⟨va, vb, vt⟩, c, l⟩ := by simp [checkOp, HH.out, hk]
      rw [hc]
      clear hc
      obtain ⟨R, hR⟩ : ∃ R, refuse ⟨k, t, ⟨va, vb, vt⟩, c, l⟩ = R := ⟨_, rfl⟩
      obtain ⟨p, hp⟩ : ∃ p, toPiece ⟨k, t, ⟨va, vb, vt⟩, c, l⟩ = p := ⟨_, rfl⟩
      rw [hR, hp]
      have HR := Lib.hid (And.intro hR hp); clear hR hp
      rcases hk with rfl | rfl
      all_goals
        go_enter Tryz.func156, Tryz.ntmps156
        go_wp2_with (first
          | (go_at_call 174; refine (has_any _ _ _ _ _ _ _ _ _ (RdAttrs.gr hl (by repeat (with_reducible first | assumption | exact Gr.refl _ | apply Gr.alloc | apply Gr.drewN | apply Gr.drew | apply Gr.iter | (refine Gr.setCell ?_ (by simp) _) | (refine Gr.trans ?_ (by assumption)))))).mono ?_; rw [HH.out]; rintro e w' ⟨rfl, hg⟩; have hc0 := fun o => hg.cells w.heap.size o (by simp))
          | (go_at_call 175; refine (cof_any _ _ _ _ _ _ _ _ _ (hE.gr (by repeat (with_reducible first | assumption | exact Gr.refl _ | apply Gr.alloc | apply Gr.drewN | apply Gr.drew | apply Gr.iter | (refine Gr.setCell ?_ (by simp) _) | (refine Gr.trans ?_ (by assumption))))) (RdAttrs.gr hl (by repeat (with_reducible first | assumption | exact Gr.refl _ | apply Gr.alloc | apply Gr.drewN | apply Gr.drew | apply Gr.iter | (refine Gr.setCell ?_ (by simp) _) | (refine Gr.trans ?_ (by assumption))))) ht hvt).mono ?_; rw [HR.out.1, HR.out.2]; rintro e w'' ⟨v, rfl, hg', hp, hn⟩; have HP := Lib.hid (And.intro hp hn); clear hp hn))
        go_ret2
        exact ⟨_, ret_two rfl rfl, (by repeat (with_reducible first | assumption | exact Gr.refl _ | apply Gr.alloc | apply Gr.drewN | apply Gr.drew | apply Gr.iter | (refine Gr.setCell ?_ (by simp) _) | (refine Gr.trans ?_ (by assumption)))), fun h => ⟨(HP.out.1 h).1, fun b hb' => Nat.le_trans (Gr.size (w := w) (by repeat (with_reducible first | assumption | exact Gr.refl _ | apply Gr.alloc | apply Gr.drewN | apply Gr.drew | apply Gr.iter | (refine Gr.setCell ?_ (by simp) _) | (refine Gr.trans ?_ (by assumption))))) ((HP.out.1 h).2 b hb')⟩, HP.out.2⟩
    · have k1 : (k == 1) = false := by simp; omega
      have k2 : (k == 2) = false := by simp; omega
      by_cases h1 : c < 1
      · have hc : checkOp ⟨k, t, ⟨va, vb, vt⟩, c, l⟩ = 9 := by simp [checkOp, HH.out, hk, h1]
        rw [hc]
        clear hc hk
        go_enter Tryz.func156, Tryz.ntmps156
        go_wp2_with (go_at_call 174; refine (has_any _ _ _ _ _ _ _ _ _ (RdAttrs.gr hl (by repeat (with_reducible first | assumption | exact Gr.refl _ | apply Gr.alloc | apply Gr.drewN | apply Gr.drew | apply Gr.iter | (refine Gr.setCell ?_ (by simp) _) | (refine Gr.trans ?_ (by assumption)))))).mono ?_; rw [HH.out]; rintro e w' ⟨rfl, hg⟩; have hc0 := fun o => hg.cells w.heap.size o (by simp); have f9 := (hE.gr (w' := w') (by repeat (with_reducible first | assumption | exact Gr.refl _ | apply Gr.alloc | apply Gr.drewN | apply Gr.drew | apply Gr.iter | (refine Gr.setCell ?_ (by simp) _) | (refine Gr.trans ?_ (by assumption))))).e9)
        go_quiet (fail)
        go_wp2
        go_ret2
        exact ⟨.nilIface, ret_two rfl rfl, (by repeat (with_reducible first | assumption | exact Gr.refl _ | apply Gr.alloc | apply Gr.drewN | apply Gr.drew | apply Gr.iter | (refine Gr.setCell ?_ (by simp) _) | (refine Gr.trans ?_ (by assumption)))), fun h => absurd h (by omega), fun _ => rfl⟩
      · by_cases h2 : maxLength < c
        · have hc : checkOp ⟨k, t, ⟨va, vb, vt⟩, c, l⟩ = 11 := by simp [checkOp, HH.out, hk, h1, h2]
          rw [hc]
          clear hc hk
          unfold maxLength at h2
          go_enter Tryz.func156, Tryz.ntmps156
          go_wp2_with (go_at_call 174; refine (has_any _ _ _ _ _ _ _ _ _ (RdAttrs.gr hl (by repeat (with_reducible first | assumption | exact Gr.refl _ | apply Gr.alloc | apply Gr.drewN | apply Gr.drew | apply Gr.iter | (refine Gr.setCell ?_ (by simp) _) | (refine Gr.trans ?_ (by assumption)))))).mono ?_; rw [HH.out]; rintro e w' ⟨rfl, hg⟩; have hc0 := fun o => hg.cells w.heap.size o (by simp); have f11 := (hE.gr (w' := w') (by repeat (with_reducible first | assumption | exact Gr.refl _ | apply Gr.alloc | apply Gr.drewN | apply Gr.drew | apply Gr.iter | (refine Gr.setCell ?_ (by simp) _) | (refine Gr.trans ?_ (by assumption))))).e11)
          go_quiet (fail)
          go_wp2
          go_ret2
          exact ⟨.nilIface, ret_two rfl rfl, (by repeat (with_reducible first | assumption | exact Gr.refl _ | apply Gr.alloc | apply Gr.drewN | apply Gr.drew | apply Gr.iter | (refine Gr.setCell ?_ (by simp) _) | (refine Gr.trans ?_ (by assumption)))), fun h => absurd h (by omega), fun _ => rfl⟩
        · unfold maxLength at h2
          by_cases h4 : k = 4
          · subst h4
            have hc : checkOp ⟨4, t, ⟨va, vb, vt⟩, c, l⟩ = 0 := by simp [checkOp, HH.out, h1, h2, maxLength]
            have hp : toPiece ⟨4, t, ⟨va, vb, vt⟩, c, l⟩ = .del c := by simp [toPiece]
            rw [hc, hp]
            clear hc hp hk
            go_enter Tryz.func156, Tryz.ntmps156
            go_wp2_with (go_at_call 174; refine (has_any _ _ _ _ _ _ _ _ _ (RdAttrs.gr hl (by repeat (with_reducible first | assumption | exact Gr.refl _ | apply Gr.alloc | apply Gr.drewN | apply Gr.drew | apply Gr.iter | (refine Gr.setCell ?_ (by simp) _) | (refine Gr.trans ?_ (by assumption)))))).mono ?_; rw [HH.out]; rintro e w' ⟨rfl, hg⟩; have hc0 := fun o => hg.cells w.heap.size o (by simp))
            go_ret2
            exact ⟨_, ret_two rfl (errOf_zero ea).symm, (by repeat (with_reducible first | assumption | exact Gr.refl _ | apply Gr.alloc | apply Gr.drewN | apply Gr.drew | apply Gr.iter | (refine Gr.setCell ?_ (by simp) _) | (refine Gr.trans ?_ (by assumption)))), fun _ => ⟨rfl, fun b hb' => by simp [ablk, Value.ownBlock] at hb'⟩, fun h => absurd rfl h⟩
          · have h4' : (k == 4) = false := by simp; omega
            have hc : checkOp ⟨k, t, ⟨va, vb, vt⟩, c, l⟩ = checkAttrs true l := by simp [checkOp, HH.out, hk, h1, h2, h4, maxLength]
            have hp : toPiece ⟨k, t, ⟨va, vb, vt⟩, c, l⟩ = .ret l c := by simp only [toPiece]; rw [if_neg (by omega), if_neg (by omega), if_neg h4]
            rw [hc, hp]
            obtain ⟨R, hR⟩ : ∃ R, checkAttrs true l = R := ⟨_, rfl⟩
            rw [hR]
            have HR := Lib.hid (And.intro hR (And.intro hc hp)); clear hR hc hp
            by_cases h0 : R = 0
            · have h0' : decide (R = 0) = true := by simpa using h0
              have H0 := Lib.hid (And.intro h0 hk); clear h0 hk
              go_enter Tryz.func156, Tryz.ntmps156
              go_wp2_with (first
                | (go_at_call 174; refine (has_any _ _ _ _ _ _ _ _ _ (RdAttrs.gr hl (by repeat (with_reducible first | assumption | exact Gr.refl _ | apply Gr.alloc | apply Gr.drewN | apply Gr.drew | apply Gr.iter | (refine Gr.setCell ?_ (by simp) _) | (refine Gr.trans ?_ (by assumption)))))).mono ?_; rw [HH.out]; rintro e w' ⟨rfl, hg⟩; have hc0 := fun o => hg.cells w.heap.size o (by simp))
                | (go_at_call 176; refine (acheck_any _ _ _ _ (hE.gr (by repeat (with_reducible first | assumption | exact Gr.refl _ | apply Gr.alloc | apply Gr.drewN | apply Gr.drew | apply Gr.iter | (refine Gr.setCell ?_ (by simp) _) | (refine Gr.trans ?_ (by assumption))))) (RdAttrs.gr hl (by repeat (with_reducible first | assumption | exact Gr.refl _ | apply Gr.alloc | apply Gr.drewN | apply Gr.drew | apply Gr.iter | (refine Gr.setCell ?_ (by simp) _) | (refine Gr.trans ?_ (by assumption)))))).mono ?_; rw [HR.out.1]; rintro e w'' ⟨rfl, hg'⟩; have hc1 := fun o => hg'.cells w.heap.size o hg.lt; have hw : w.heap.size < w''.heap.size := Nat.lt_of_lt_of_le hg.lt hg'.size))
              have q5 : w''.cell? ⟨w.heap.size, 5, none⟩ = some (.int .i64 c) := by rw [hc1, hc0]; simp
              have q6 : w''.cell? ⟨w.heap.size, 6, none⟩ = some (.slice a l.length cap) := by rw [hc1, hc0]; simp
              clear hc0 hc1
              go_region_held3 (fun W => W.cell? ⟨w.heap.size, 5, none⟩ = some (.int .i64 c) ∧ W.cell? ⟨w.heap.size, 6, none⟩ = some (.slice a l.length cap)) (first | exact ⟨hg3.cell q5, hg3.cell q6⟩ | go_keep) (first | (go_at_call 177; refine (cloneA_any l _ _ (RdAttrs.gr hl (by repeat (with_reducible first | assumption | exact Gr.refl _ | apply Gr.alloc | apply Gr.drewN | apply Gr.drew | apply Gr.iter | (refine Gr.setCell ?_ (by simp) _) | (refine Gr.trans ?_ (by assumption)))))).mono ?_; rintro e w3 ⟨v', rfl, ho, hg3⟩; obtain ⟨a', c', rfl, -⟩ := ho.slice))
              all_goals
                go_wp2
                go_ret2
                refine ⟨_, ret_two rfl ?_, (by repeat (with_reducible first | assumption | exact Gr.refl _ | apply Gr.alloc | apply Gr.drewN | apply Gr.drew | apply Gr.iter | (refine Gr.setCell ?_ (by simp) _) | (refine Gr.trans ?_ (by assumption)))), fun _ => ?_, fun h => absurd H0.out.1 h⟩
                · rw [H0.out.1, errOf_zero]; rfl
                · exact ⟨⟨_, rfl, OwnL.gr (w := w3) (ho.base_le (Nat.zero_le _)) (fun _ _ h => h) (by repeat (with_reducible first | assumption | exact Gr.refl _ | apply Gr.alloc | apply Gr.drewN | apply Gr.drew | apply Gr.iter | (refine Gr.setCell ?_ (by simp) _) | (refine Gr.trans ?_ (by assumption)))), hb⟩, fun b hb' => Nat.le_trans (Gr.size (w := w) (by repeat (with_reducible first | assumption | exact Gr.refl _ | apply Gr.alloc | apply Gr.drewN | apply Gr.drew | apply Gr.iter | (refine Gr.setCell ?_ (by simp) _) | (refine Gr.trans ?_ (by assumption))))) (own_lo ho b hb')⟩
            · have h0' : decide (R = 0) = false := by simpa using h0
              have H0 := Lib.hid (And.intro h0 hk); clear h0 hk
              go_enter Tryz.func156, Tryz.ntmps156
              go_wp2_with (first
                | (go_at_call 174; refine (has_any _ _ _ _ _ _ _ _ _ (RdAttrs.gr hl (by repeat (with_reducible first | assumption | exact Gr.refl _ | apply Gr.alloc | apply Gr.drewN | apply Gr.drew | apply Gr.iter | (refine Gr.setCell ?_ (by simp) _) | (refine Gr.trans ?_ (by assumption)))))).mono ?_; rw [HH.out]; rintro e w' ⟨rfl, hg⟩; have hc0 := fun o => hg.cells w.heap.size o (by simp))
                | (go_at_call 176; refine (acheck_any _ _ _ _ (hE.gr (by repeat (with_reducible first | assumption | exact Gr.refl _ | apply Gr.alloc | apply Gr.drewN | apply Gr.drew | apply Gr.iter | (refine Gr.setCell ?_ (by simp) _) | (refine Gr.trans ?_ (by assumption))))) (RdAttrs.gr hl (by repeat (with_reducible first | assumption | exact Gr.refl _ | apply Gr.alloc | apply Gr.drewN | apply Gr.drew | apply Gr.iter | (refine Gr.setCell ?_ (by simp) _) | (refine Gr.trans ?_ (by assumption)))))).mono ?_; rw [HR.out.1]; rintro e w'' ⟨rfl, hg'⟩))
              go_ret2
              exact ⟨.nilIface, rfl, (by repeat (with_reducible first | assumption | exact Gr.refl _ | apply Gr.alloc | apply Gr.drewN | apply Gr.drew | apply Gr.iter | (refine Gr.setCell ?_ (by simp) _) | (refine Gr.trans ?_ (by assumption)))), fun h => absurd h H0.out.1, fun _ => rfl⟩
set_option maxHeartbeats 400000 in
theorem ocheck_any {ea : Nat → Addr} (k : Int) (t : ByteArray) (va vb : Int) (vt : ByteArray) (c : Int) (sl : Value) (l : List Attr) (w : World) (hE : Env ea w) (hl : RdAttrs w sl l) (ht : szS t) (hvt : szS vt) :
    Calls Tryz.prog 120 #[.agg #[.int .i64 k, .string t, .int .i64 va, .int .i64 vb, .string vt, .int .i64 c, sl]] w fun e w' => e = .returned (errOf ea (checkOp ⟨k, t, ⟨va, vb, vt⟩, c, l⟩)) ∧ Gr w w' := by
  obtain ⟨a, cap, rfl, -, -, hb⟩ := hl.slice
  go_enter Tryz.func120, Tryz.ntmps120
  go_wp2_with (go_at_call 156; refine (piece_any _ _ _ _ _ _ _ _ _ (hE.gr (by repeat (with_reducible first | assumption | exact Gr.refl _ | apply Gr.alloc | apply Gr.drewN | apply Gr.drew | apply Gr.iter | (refine Gr.setCell ?_ (by simp) _) | (refine Gr.trans ?_ (by assumption))))) (RdAttrs.gr hl (by repeat (with_reducible first | assumption | exact Gr.refl _ | apply Gr.alloc | apply Gr.drewN | apply Gr.drew | apply Gr.iter | (refine Gr.setCell ?_ (by simp) _) | (refine Gr.trans ?_ (by assumption))))) ht hvt).mono ?_; rintro e w' ⟨v, rfl, hg, -, -⟩)
  go_ret
  exact ⟨rfl, (by repeat (with_reducible first | assumption | exact Gr.refl _ | apply Gr.alloc | apply Gr.drewN | apply Gr.drew | apply Gr.iter | (refine Gr.setCell ?_ (by simp) _) | (refine Gr.trans ?_ (by assumption))))⟩
end Ve
/- Walks of layers 5 and 6, the program's side: ops.Of, .. -/
namespace Ve
open Go Go.RowKit Go.Proofs

theorem take_map {α β : Type} {f : α → β} {l : List α} {k : Nat} {x : α} (h : l[k]? = some x) : (l.take (k + 1)).map f = (l.take k).map f ++ [f x] := by
  obtain ⟨hl, rfl⟩ := List.getElem?_eq_some_iff.1 h
  rw [List.take_succ_eq_append_getElem hl, List.map_append]; rfl
theorem badFrom_ok {i : Nat} {o : Op} {r : List Op} (h : checkOp o = 0) : badFrom i (o :: r) = badFrom (i + 1) r := by simp [badFrom, h]
theorem badFrom_bad {i : Nat} {o : Op} {r : List Op} (h : checkOp o ≠ 0) : badFrom i (o :: r) = (i, checkOp o) := by simp [badFrom, h]
theorem ret_three {a b c a' b' c' : Value} (h : a = a') (h' : b = b') (h'' : c = c') : Ending.returned (.tuple #[a, b, c]) = .returned (.tuple #[a', b', c']) := by rw [h, h', h'']
/-- A call that answers pieces, a number and an error. -/
def PiecesRes (ea : Nat → Addr) (r : Nat × Int) (l : List Piece) (w : World) (e : Ending) (w' : World) : Prop :=
  ∃ v, e = .returned (.tuple #[v, .int .i64 r.1, errOf ea r.2]) ∧ Gr w w' ∧ (r.2 = 0 → OwnL PieceR 1 w.heap.size 109 w' v l) ∧ (r.2 ≠ 0 → v = .slice none 0 0)
/-- The same, the pieces' attributes apart. -/
def PiecesApart (ea : Nat → Addr) (r : Nat × Int) (l : List Piece) (w : World) (e : Ending) (w' : World) : Prop :=
  ∃ v, e = .returned (.tuple #[v, .int .i64 r.1, errOf ea r.2]) ∧ Gr w w' ∧ (r.2 = 0 → ∃ pl, OwnL PieceB 1 w.heap.size 109 w' v pl ∧ pl.map (·.1) = l ∧ ApartV w.heap.size (pl.map (·.2))) ∧ (r.2 ≠ 0 → v = .slice none 0 0)
theorem OwnB.own {base : Nat} {w : World} {v : Value} {pl : List (Piece × Value)} (h : OwnL PieceB 1 base 109 w v pl) : OwnL PieceR 1 base 109 w v (pl.map (·.1)) := OwnL.via (·.1) (fun _ _ h => h.r) h
theorem PiecesApart.res {ea : Nat → Addr} {r : Nat × Int} {l : List Piece} {w w' : World} {e : Ending} (h : PiecesApart ea r l w e w') : PiecesRes ea r l w e w' := by
  obtain ⟨v, h1, h2, h3, h4⟩ := h
  refine ⟨v, h1, h2, fun h => ?_, h4⟩
  obtain ⟨pl, a, rfl, -⟩ := h3 h
  exact OwnB.own a
set_option maxHeartbeats 1000000 in
theorem oof_apart {ea : Nat → Addr} (l : List Op) (v : Value) (w : World) (hE : Env ea w) (hl : RdOps w v l) :
    Calls Tryz.prog 121 #[v] w (PiecesApart ea (bad l) (l.map toPiece) w) := by
  obtain ⟨a, cap, rfl, hcap, hm, hb⟩ := hl.slice
  obtain ⟨n, hn⟩ : ∃ n, l.length = n := ⟨_, rfl⟩
  rw [hn] at hl hcap hb ⊢
  have Hn := Lib.hid hn; clear hn
  unfold maxLen at hm
  go_enter Tryz.func121, Tryz.ntmps121
  go_wp2
  go_loopw [5, 12] (fun o i wr => ∃ k : Nat, k ≤ n ∧ i = .int .i64 k ∧ Gr w wr ∧ (∃ pl, OwnL PieceB 1 w.heap.size 109 wr o pl ∧ pl.map (·.1) = (l.take k).map toPiece ∧ ApartV w.heap.size (pl.map (·.2))) ∧ badFrom k (l.drop k) = bad l) (fun _ i _ => n - (intOf i).toNat)
  case atStart => exact ⟨0, Nat.zero_le _, rfl, Gr.refl _, ⟨[], OwnL.nil .., by simp, ApartV.nil _⟩, rfl⟩
  case round =>
    obtain ⟨k, hk, rfl, hg, ⟨pl, ho, hpl, hap⟩, ht⟩ := hrel
    have Ht := Lib.hid ht; clear ht
    obtain ⟨oa, om, oc, rfl, -, -, hom⟩ := ho.sl
    have hpk : pl.length ≤ k := by have := congrArg List.length hpl; rw [List.length_map, List.length_map, List.length_take] at this; omega
    have Hpl := Lib.hid (And.intro hpl hap); clear hpl hap
    by_cases hlt : k < n
    · obtain ⟨b, off, xk, xt, xa, xb, xv, xc, ats, sl, hx, rfl, hr, c0, c1, c2, c3, c4, c5, c6, s1, s2⟩ := (RdOps.gr hl hg).at_ k hlt
      have Hx := Lib.hid hx; clear hx
      have hlt' : (k : Int) < n := by omega
      obtain ⟨R, hR⟩ : ∃ R, checkOp ⟨xk, xt, ⟨xa, xb, xv⟩, xc, ats⟩ = R := ⟨_, rfl⟩
      obtain ⟨p, hp⟩ : ∃ p, toPiece ⟨xk, xt, ⟨xa, xb, xv⟩, xc, ats⟩ = p := ⟨_, rfl⟩
      have HR := Lib.hid (And.intro hR hp); clear hR hp
      obtain ⟨sa, sc, hsl, -⟩ := RdList.slice hr
      subst hsl
      by_cases h0 : R = 0
      · have h0' : decide (R = 0) = true := by simpa using h0
        have H0 := Lib.hid h0; clear h0
        go_wp2_with (first
          | (go_at_call 156; refine (piece_any _ _ _ _ _ _ _ _ _ ((hE.gr hg).gr (by repeat (with_reducible first | assumption | exact Gr.refl _ | apply Gr.alloc | apply Gr.drewN | apply Gr.drew | apply Gr.iter | (refine Gr.setCell ?_ (by simp) _) | (refine Gr.trans ?_ (by assumption))))) (RdAttrs.gr hr (by repeat (with_reducible first | assumption | exact Gr.refl _ | apply Gr.alloc | apply Gr.drewN | apply Gr.drew | apply Gr.iter | (refine Gr.setCell ?_ (by simp) _) | (refine Gr.trans ?_ (by assumption))))) s1 s2).mono ?_; rw [HR.out.1, HR.out.2]; rintro e w' ⟨pv, rfl, hg', hp, -⟩; obtain ⟨hpv, hpb⟩ := hp H0.out; obtain ⟨T, y, hy⟩ := hpv.form; subst hy; obtain ⟨v', w'', hrun, hown, hgb, -, -, hbs⟩ := push_pieceB w' w.heap.size 95 (x := (p, .iface T y)) (OwnL.gr (w := wr) ho (fun _ _ h => h.gr (w := wr) (by repeat (with_reducible first | assumption | exact Gr.refl _ | apply Gr.alloc | apply Gr.drewN | apply Gr.drew | apply Gr.iter | (refine Gr.setCell ?_ (by simp) _) | (refine Gr.trans ?_ (by assumption))))) (by repeat (with_reducible first | assumption | exact Gr.refl _ | apply Gr.alloc | apply Gr.drewN | apply Gr.drew | apply Gr.iter | (refine Gr.setCell ?_ (by simp) _) | (refine Gr.trans ?_ (by assumption))))) hpv (by omega) (Nat.le_trans hg.size (Gr.size (w := wr) (by repeat (with_reducible first | assumption | exact Gr.refl _ | apply Gr.alloc | apply Gr.drewN | apply Gr.drew | apply Gr.iter | (refine Gr.setCell ?_ (by simp) _) | (refine Gr.trans ?_ (by assumption)))))); have HP := Lib.hid (And.intro hrun (And.intro hown (And.intro hgb (And.intro hbs (fun b hb' => Nat.le_trans (Gr.size (w := wr) (by repeat (with_reducible first | assumption | exact Gr.refl _ | apply Gr.alloc | apply Gr.drewN | apply Gr.drew | apply Gr.iter | (refine Gr.setCell ?_ (by simp) _) | (refine Gr.trans ?_ (by assumption))))) (hpb b hb')))))); clear hrun hown hgb hbs hp hpb)
          | (at_builtin; refine wpList_run rfl _ _ _ rfl rfl rfl HP.out.1 ?_))
        go_roundw
        case rel =>
          obtain ⟨-, h2, h3, h4, h5⟩ := HP.out
          refine ⟨k + 1, by omega, by go_num, ?_, ?_, ?_⟩
          · exact Gr.push (by repeat (with_reducible first | assumption | exact Gr.refl _ | apply Gr.alloc | apply Gr.drewN | apply Gr.drew | apply Gr.iter | (refine Gr.setCell ?_ (by simp) _) | (refine Gr.trans ?_ (by assumption)))) h3 (fun b hb => h4.1 b hb)
          · exact ⟨_, h2, by rw [take_map Hx.out, HR.out.2, List.map_append, Hpl.out.1]; rfl, by rw [List.map_append]; exact Hpl.out.2.push (OwnB.alt ho) h5 hg.size⟩
          · rw [← Ht.out, drop_cons Hx.out, badFrom_ok (HR.out.1.trans H0.out)]
        case measure => simp [intOf]; omega
      · have h0' : decide (R = 0) = false := by simpa using h0
        have H0 := Lib.hid h0; clear h0
        go_wp2_with (first
          | (go_at_call 156; refine (piece_any _ _ _ _ _ _ _ _ _ ((hE.gr hg).gr (by repeat (with_reducible first | assumption | exact Gr.refl _ | apply Gr.alloc | apply Gr.drewN | apply Gr.drew | apply Gr.iter | (refine Gr.setCell ?_ (by simp) _) | (refine Gr.trans ?_ (by assumption))))) (RdAttrs.gr hr (by repeat (with_reducible first | assumption | exact Gr.refl _ | apply Gr.alloc | apply Gr.drewN | apply Gr.drew | apply Gr.iter | (refine Gr.setCell ?_ (by simp) _) | (refine Gr.trans ?_ (by assumption))))) s1 s2).mono ?_; rw [HR.out.1, HR.out.2]; rintro e w' ⟨pv, rfl, hg', -, hn⟩; have hpv := hn H0.out; subst hpv))
        go_ret3
        have hb : bad l = (k, R) := by rw [← Ht.out, drop_cons Hx.out, badFrom_bad (by rw [HR.out.1]; exact H0.out), HR.out.1]
        rw [hb]
        exact ⟨_, ret_three rfl rfl rfl, (by repeat (with_reducible first | assumption | exact Gr.refl _ | apply Gr.alloc | apply Gr.drewN | apply Gr.drew | apply Gr.iter | (refine Gr.setCell ?_ (by simp) _) | (refine Gr.trans ?_ (by assumption)))), fun h => absurd h H0.out, fun _ => rfl⟩
    · obtain rfl : k = n := by omega
      go_wp2
      go_ret3
      have hl0 : l.drop k = [] := List.drop_eq_nil_of_le (by rw [Hn.out]; exact Nat.le_refl _)
      have hb : bad l = (0, 0) := by rw [← Ht.out, hl0]; rfl
      have hpl := Hpl.out.1
      rw [List.take_of_length_le (by rw [Hn.out]; exact Nat.le_refl _)] at hpl
      rw [hb]
      exact ⟨_, ret_three rfl rfl (errOf_zero ea).symm, (by repeat (with_reducible first | assumption | exact Gr.refl _ | apply Gr.alloc | apply Gr.drewN | apply Gr.drew | apply Gr.iter | (refine Gr.setCell ?_ (by simp) _) | (refine Gr.trans ?_ (by assumption)))), fun _ => ⟨pl, ho, hpl, Hpl.out.2⟩, fun h => absurd rfl h⟩
theorem oof_any {ea : Nat → Addr} (l : List Op) (v : Value) (w : World) (hE : Env ea w) (hl : RdOps w v l) :
    Calls Tryz.prog 121 #[v] w (PiecesRes ea (bad l) (l.map toPiece) w) := (oof_apart l v w hE hl).mono fun _ _ h => h.res
end Ve
