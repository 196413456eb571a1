/- Walks of layer 4, the program's side: copies of attributes, content.refuse, Of. -/
import Derived.Test.YtmdakddgeagnmaaDoorG3
set_option linter.all false
namespace Ve
open Go Go.RowKit Go.Proofs

theorem info_attr : (Tryd.prog.info? 112).map (fun i => (i.zero, i.size, i.bytes)) = some (some (.agg #[.string ⟨#[]⟩, .int .i64 0, .int .i64 0, .string ⟨#[]⟩]), 4, 48) := by kernel_rfl
theorem app_attr (w : World) (base : Nat) (ty : TypeId) {v x : Value} {l m : List Attr} (hown : OwnL AttrR 4 base 112 w v l) (hx : RdAttrs w x m) (hm : l.length + m.length ≤ 1099511627776) (hb : base ≤ w.heap.size) :
    ∃ v' w', (Builtin.append_ #[49, 49] ty #[v, x]).run Tryd.prog w = .ok v' w' ∧ OwnL AttrR 4 base 112 w' v' (l ++ m) ∧ w.grownBy w' v.ownBlock ∧ (v'.ownBlock = v.ownBlock ∨ v'.ownBlock = some w.heap.size) :=
  run_appL w base _ ty _ _ 4 48 Tryd.underlying49 info_attr rfl (by omega) (by omega) (AttrR.flat w) hown hx hm hb (fun _ _ _ _ h => h)
set_option maxHeartbeats 400000 in
theorem copied_any (l : List Attr) (v : Value) (w : World) (hl : RdAttrs w v l) :
    Calls Tryd.prog 84 #[v] w fun e w' => ∃ v', e = .returned v' ∧ OwnL AttrR 4 w.heap.size 112 w' v' l ∧ Gr w w' := by
  obtain ⟨v', w', hrun, hown, hg, -⟩ := app_attr w w.heap.size 49 (OwnL.nil w AttrR 4 w.heap.size 112) hl (by have := hl.slice; obtain ⟨_, _, _, _, _, h⟩ := this; simpa using h) (Nat.le_refl _)
  have Hg := Lib.hid hg; clear hg
  have Ho := Lib.hid hown; clear hown
  obtain ⟨a, cap, rfl, -⟩ := hl.slice
  have HH := Lib.hid hrun; clear hrun
  go_enter Tryd.func84, Tryd.ntmps84
  go_wp2_with (at_builtin; refine wpList_run rfl _ _ _ rfl rfl rfl HH.out ?_)
  go_ret
  exact ⟨_, rfl, Ho.out, (Gr.refl w).grown Hg.out (by simp [Value.ownBlock])⟩
set_option maxHeartbeats 400000 in
theorem cloneA_any (l : List Attr) (v : Value) (w : World) (hl : RdAttrs w v l) :
    Calls Tryd.prog 76 #[v] w fun e w' => ∃ v', e = .returned v' ∧ OwnL AttrR 4 w.heap.size 112 w' v' l ∧ Gr w w' := by
  obtain ⟨a, cap, rfl, -, -, hb⟩ := hl.slice
  cases a with
  | none =>
    obtain rfl := hl.none_nil
    clear hl hb
    go_enter Tryd.func76, Tryd.ntmps76
    go_wp2
    go_ret
    exact ⟨_, rfl, OwnL.nil .., Gr.refl _⟩
  | some a =>
    obtain ⟨v', w', hrun, hown, hg, hw⟩ := app_attr (w.alloc (.cells #[] 112)) w.heap.size 49 (OwnL.made w AttrR 4 w.heap.size 112 (Nat.le_refl _)) (RdAttrs.gr hl (by repeat (with_reducible first | assumption | exact Gr.refl _ | apply Gr.alloc | apply Gr.drewN | apply Gr.drew | apply Gr.iter | (refine Gr.setCell ?_ (by simp) _) | (refine Gr.trans ?_ (by assumption))))) (by simpa using hb) (by simp)
    have Hg := Lib.hid (And.intro hg hw); clear hg hw
    have Ho := Lib.hid hown; clear hown
    have HH := Lib.hid hrun; clear hrun
    go_enter Tryd.func76, Tryd.ntmps76
    go_wp2_with (at_builtin; refine wpList_run rfl _ _ _ rfl rfl rfl HH.out ?_)
    go_ret
    exact ⟨_, rfl, Ho.out, ((Gr.refl w).alloc _).grown Hg.out.1 (by simp [Value.ownBlock])⟩
set_option maxHeartbeats 2000000 in
theorem refuse_any {ea : Nat → Addr} (k : Int) (t : ByteArray) (va vb : Int) (vt : ByteArray) (c : Int) (sl : Value) (l : List Attr) (w : World) (hE : Env ea w) (hl : RdAttrs w sl l) (ht : szS t) (hvt : szS vt) :
    Calls Tryd.prog 83 #[.agg #[.int .i64 k, .string t, .int .i64 va, .int .i64 vb, .string vt, .int .i64 c, sl]] w fun e w' => e = .returned (errOf ea (refuse ⟨k, t, ⟨va, vb, vt⟩, c, l⟩)) ∧ Gr w w' := by
  have e5 := hE.e5; have z5 := cell_lt e5; have e6 := hE.e6; have z6 := cell_lt e6; have e9 := hE.e9; have z9 := cell_lt e9; have e1 := hE.e1; have z1 := cell_lt e1
  obtain ⟨a, cap, rfl, -⟩ := hl.slice
  by_cases hk : k = 1 ∨ k = 2
  · rcases hk with rfl | rfl
    · go_enter Tryd.func83, Tryd.ntmps83
      go_wp2
      go_quiet (fail)
      go_wp2_with (first
        | (go_at_call 92; refine (scheck_any _ _ (hE.gr (by repeat (with_reducible first | assumption | exact Gr.refl _ | apply Gr.alloc | apply Gr.drewN | apply Gr.drew | apply Gr.iter | (refine Gr.setCell ?_ (by simp) _) | (refine Gr.trans ?_ (by assumption))))) ht.le).mono ?_; rintro e w' ⟨rfl, hg⟩; have hc0 := fun o => hg.cells w.heap.size o (by simp); have f1 := (hE.gr (w' := w') (by repeat (with_reducible first | assumption | exact Gr.refl _ | apply Gr.alloc | apply Gr.drewN | apply Gr.drew | apply Gr.iter | (refine Gr.setCell ?_ (by simp) _) | (refine Gr.trans ?_ (by assumption))))).e1)
        | (go_at_call 75; refine (acheck_any _ _ _ _ (hE.gr (by repeat (with_reducible first | assumption | exact Gr.refl _ | apply Gr.alloc | apply Gr.drewN | apply Gr.drew | apply Gr.iter | (refine Gr.setCell ?_ (by simp) _) | (refine Gr.trans ?_ (by assumption))))) (RdAttrs.gr hl (by repeat (with_reducible first | assumption | exact Gr.refl _ | apply Gr.alloc | apply Gr.drewN | apply Gr.drew | apply Gr.iter | (refine Gr.setCell ?_ (by simp) _) | (refine Gr.trans ?_ (by assumption)))))).mono ?_; rintro e w'' ⟨rfl, hg''⟩))
      all_goals go_ret
      all_goals refine ⟨ret_err ?_, (by repeat (with_reducible first | assumption | exact Gr.refl _ | apply Gr.alloc | apply Gr.drewN | apply Gr.drew | apply Gr.iter | (refine Gr.setCell ?_ (by simp) _) | (refine Gr.trans ?_ (by assumption))))⟩
      ((all_goals go_light); (all_goals (try simp_all [refuse, eqS, eqP, es, ep, utf8Err])); (all_goals (first | omega | rfl | (rw [Bool.eq_iff_iff]; simp; done) | (intros; omega) | (intros; simp_all; done) | (intros; simp_all; omega) | (split <;> simp_all; done) | (split <;> simp_all <;> omega))))
    · go_enter Tryd.func83, Tryd.ntmps83
      go_wp2
      go_quiet (fail)
      go_wp2_with (first
        | (go_at_call 92; refine (scheck_any _ _ (hE.gr (by repeat (with_reducible first | assumption | exact Gr.refl _ | apply Gr.alloc | apply Gr.drewN | apply Gr.drew | apply Gr.iter | (refine Gr.setCell ?_ (by simp) _) | (refine Gr.trans ?_ (by assumption))))) ht.le).mono ?_; rintro e w' ⟨rfl, hg⟩; have hc0 := fun o => hg.cells w.heap.size o (by simp); have f1 := (hE.gr (w' := w') (by repeat (with_reducible first | assumption | exact Gr.refl _ | apply Gr.alloc | apply Gr.drewN | apply Gr.drew | apply Gr.iter | (refine Gr.setCell ?_ (by simp) _) | (refine Gr.trans ?_ (by assumption))))).e1)
        | (go_at_call 93; refine (vcheck_any _ _ _ _ (hE.gr (by repeat (with_reducible first | assumption | exact Gr.refl _ | apply Gr.alloc | apply Gr.drewN | apply Gr.drew | apply Gr.iter | (refine Gr.setCell ?_ (by simp) _) | (refine Gr.trans ?_ (by assumption))))) hvt.le).mono ?_; rintro e w'' ⟨rfl, hg'⟩; have hc1 := fun o => hg'.cells w.heap.size o (by have := hg.size; simp at this; omega))
        | (go_at_call 75; refine (acheck_any _ _ _ _ (hE.gr (by repeat (with_reducible first | assumption | exact Gr.refl _ | apply Gr.alloc | apply Gr.drewN | apply Gr.drew | apply Gr.iter | (refine Gr.setCell ?_ (by simp) _) | (refine Gr.trans ?_ (by assumption))))) (RdAttrs.gr hl (by repeat (with_reducible first | assumption | exact Gr.refl _ | apply Gr.alloc | apply Gr.drewN | apply Gr.drew | apply Gr.iter | (refine Gr.setCell ?_ (by simp) _) | (refine Gr.trans ?_ (by assumption)))))).mono ?_; rintro e w'' ⟨rfl, hg''⟩))
      all_goals go_ret
      all_goals refine ⟨ret_err ?_, (by repeat (with_reducible first | assumption | exact Gr.refl _ | apply Gr.alloc | apply Gr.drewN | apply Gr.drew | apply Gr.iter | (refine Gr.setCell ?_ (by simp) _) | (refine Gr.trans ?_ (by assumption))))⟩
      ((all_goals go_light); (all_goals (try simp_all [refuse, eqS, eqP, es, ep, utf8Err])); (all_goals (first | omega | rfl | (rw [Bool.eq_iff_iff]; simp; done) | (intros; omega) | (intros; simp_all; done) | (intros; simp_all; omega) | (split <;> simp_all; done) | (split <;> simp_all <;> omega))))
  · have k1 : (k == 1) = false := by simp; omega
    have k2 : (k == 2) = false := by simp; omega
    go_enter Tryd.func83, Tryd.ntmps83
    go_wp2
    go_quiet (fail)
    go_wp2
    go_ret
    refine ⟨ret_err ?_, (by repeat (with_reducible first | assumption | exact Gr.refl _ | apply Gr.alloc | apply Gr.drewN | apply Gr.drew | apply Gr.iter | (refine Gr.setCell ?_ (by simp) _) | (refine Gr.trans ?_ (by assumption))))⟩
    simp [refuse]; omega
end Ve
