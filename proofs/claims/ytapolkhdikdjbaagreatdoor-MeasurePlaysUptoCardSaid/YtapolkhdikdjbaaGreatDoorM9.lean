/- Walks: the references of layers 6 and 8: Inserted, Deleted, Document; Short, Concat, Shift. -/
import Derived.Test.YtapolkhdikdjbaaGreatDoorM8
import Derived.Test.YtapolkhdikdjbaaGreatDoorRB
set_option linter.all false
namespace Ve
open Go Go.RowKit Go.Proofs

def insO (o : Op) : Int := if o.kind = 1 ∨ o.kind = 2 then rlen o else 0
def dlO (o : Op) : Int := if o.kind = 4 then o.count else 0
theorem insO_nn {o : Op} (h : checkOp o = 0) : 0 ≤ insO o := by
  unfold insO
  split
  · exact ok_len h
  · exact Int.le_refl _
theorem dlO_nn {o : Op} (h : checkOp o = 0) : 0 ≤ dlO o := by
  unfold dlO
  split
  · have := count_base h; have := (csum_base (l := [o]) (by simpa using h)).2 o (by simp); exact this
  · exact Int.le_refl _
theorem sum_nn {f : Op → Int} {l : List Op} (h : ∀ o ∈ l, 0 ≤ f o) : 0 ≤ (l.map f).sum := by
  induction l with
  | nil => simp
  | cons o l ih =>
    rw [List.map_cons, List.sum_cons]
    have := h o (by simp)
    have := ih fun o ho => h o (by simp [ho])
    omega
theorem sum_drop {f : Op → Int} {l : List Op} {k : Nat} {o : Op} (h : l[k]? = some o) : ((l.drop k).map f).sum = f o + ((l.drop (k + 1)).map f).sum := by
  rw [drop_cons h, List.map_cons, List.sum_cons]
set_option maxRecDepth 20000 in
set_option maxHeartbeats 2000000 in
theorem rins08_any (l : List Op) (v : Value) (w : World) (hl : RdOps w v l) (hok : ∀ o ∈ l, checkOp o = 0) (hS : (l.map insO).sum ≤ 1099511627776) :
    Calls Tryz.prog 52 #[v] w fun e w' => e = .returned (.int .i64 (l.map insO).sum) ∧ Gr w w' := by
  obtain ⟨a, n, cap, rfl, hcap, hm, hb, hn⟩ := hl.sl
  go_enter Tryz.func52, Tryz.ntmps52
  go_wp2
  go_loopw [3, 4] (fun s i wr => ∃ (k : Nat) (t : Int), k ≤ n ∧ i = .int .i64 k ∧ s = .int .i64 t ∧ 0 ≤ t ∧ Gr w wr ∧ t + ((l.drop k).map insO).sum = (l.map insO).sum) (fun _ i _ => n - (intOf i).toNat)
  case atStart => exact ⟨0, 0, Nat.zero_le _, rfl, rfl, by omega, Gr.refl _, by simp⟩
  case round =>
    obtain ⟨k, t, hk, rfl, rfl, ht0, hg, ht⟩ := hrel
    by_cases hlt : k < n
    · obtain ⟨blk, off, xk, xt, xa, xb, xv, xc, ats, sl, hx, rfl, hr, c0, c1, c2, c3, c4, c5, c6, s1, s2⟩ := (RdOps.gr hl hg).at_ k hlt
      have hck := hok _ (List.mem_of_getElem? hx)
      have hi0 := insO_nn hck
      have hrest : 0 ≤ ((l.drop (k + 1)).map insO).sum := sum_nn fun o ho => insO_nn (hok o (List.mem_of_mem_drop ho))
      rw [sum_drop hx] at ht
      clear hx hck
      have hlt' : (k : Int) < n := by omega
      obtain ⟨I, hI⟩ : ∃ I, insO ⟨xk, xt, ⟨xa, xb, xv⟩, xc, ats⟩ = I := ⟨_, rfl⟩
      rw [hI] at ht hi0
      by_cases h12 : xk = 1 ∨ xk = 2
      · have hI' : rlen ⟨xk, xt, ⟨xa, xb, xv⟩, xc, ats⟩ = I := by rw [← hI]; unfold insO; rw [if_pos h12]
        have HI := Lib.hid hI'; clear hI hI'
        obtain ⟨sa, sc, hsl, -⟩ := RdList.slice hr
        subst hsl
        rcases h12 with rfl | rfl
        all_goals
          go_wp2_with (go_at_call 115; refine (rlen_any _ _ _ _ _ _ _ _ _ (RdAttrs.gr hr (by repeat (with_reducible first | assumption | exact Gr.refl _ | apply Gr.alloc | apply Gr.drewN | apply Gr.drew | apply Gr.iter | (refine Gr.setCell ?_ (by simp) _) | (refine Gr.trans ?_ (by assumption))))) s1).mono ?_; rw [HI.out]; rintro e w1 ⟨rfl, hg1⟩)
          go_roundw
          case rel => exact ⟨k + 1, t + I, by omega, by go_num, rfl, by omega, (by repeat (with_reducible first | assumption | exact Gr.refl _ | apply Gr.alloc | apply Gr.drewN | apply Gr.drew | apply Gr.iter | (refine Gr.setCell ?_ (by simp) _) | (refine Gr.trans ?_ (by assumption)))), by omega⟩
          case measure => simp [intOf]; omega
      · have hI0 : I = 0 := by rw [← hI]; unfold insO; rw [if_neg h12]
        subst hI0
        have k1 : (xk == 1) = false := by simp; omega
        have k2 : (xk == 2) = false := by simp; omega
        clear hI
        go_wp2
        go_roundw
        case rel => exact ⟨k + 1, t, by omega, by go_num, rfl, by omega, (by repeat (with_reducible first | assumption | exact Gr.refl _ | apply Gr.alloc | apply Gr.drewN | apply Gr.drew | apply Gr.iter | (refine Gr.setCell ?_ (by simp) _) | (refine Gr.trans ?_ (by assumption)))), by omega⟩
        case measure => simp [intOf]; omega
    · obtain rfl : k = n := by omega
      rw [List.drop_eq_nil_of_le (by rw [hn.out]; exact Nat.le_refl _)] at ht
      simp only [List.map_nil, List.sum_nil, Int.add_zero] at ht
      subst ht
      go_wp2
      go_ret
      exact ⟨rfl, hg⟩
set_option maxRecDepth 20000 in
set_option maxHeartbeats 2000000 in
theorem rdel08_any (l : List Op) (v : Value) (w : World) (hl : RdOps w v l) (hok : ∀ o ∈ l, checkOp o = 0) (hS : (l.map dlO).sum ≤ 1099511627776) :
    Calls Tryz.prog 54 #[v] w fun e w' => e = .returned (.int .i64 (l.map dlO).sum) ∧ Gr w w' := by
  obtain ⟨a, n, cap, rfl, hcap, hm, hb, hn⟩ := hl.sl
  go_enter Tryz.func54, Tryz.ntmps54
  go_wp2
  go_loopw [3, 4] (fun s i wr => ∃ (k : Nat) (t : Int), k ≤ n ∧ i = .int .i64 k ∧ s = .int .i64 t ∧ 0 ≤ t ∧ Gr w wr ∧ t + ((l.drop k).map dlO).sum = (l.map dlO).sum) (fun _ i _ => n - (intOf i).toNat)
  case atStart => exact ⟨0, 0, Nat.zero_le _, rfl, rfl, by omega, Gr.refl _, by simp⟩
  case round =>
    obtain ⟨k, t, hk, rfl, rfl, ht0, hg, ht⟩ := hrel
    by_cases hlt : k < n
    · obtain ⟨blk, off, xk, xt, xa, xb, xv, xc, ats, sl, hx, rfl, hr, c0, c1, c2, c3, c4, c5, c6, s1, s2⟩ := (RdOps.gr hl hg).at_ k hlt
      have hck := hok _ (List.mem_of_getElem? hx)
      have hi0 := dlO_nn hck
      have hrest : 0 ≤ ((l.drop (k + 1)).map dlO).sum := sum_nn fun o ho => dlO_nn (hok o (List.mem_of_mem_drop ho))
      rw [sum_drop hx] at ht
      clear hx hck
      have hlt' : (k : Int) < n := by omega
      by_cases h4 : xk = 4
      · subst h4
        have hI : dlO ⟨4, xt, ⟨xa, xb, xv⟩, xc, ats⟩ = xc := by unfold dlO; rw [if_pos rfl]
        rw [hI] at ht hi0
        clear hI
        go_wp2
        go_roundw
        case rel => exact ⟨k + 1, t + xc, by omega, by go_num, rfl, by omega, (by repeat (with_reducible first | assumption | exact Gr.refl _ | apply Gr.alloc | apply Gr.drewN | apply Gr.drew | apply Gr.iter | (refine Gr.setCell ?_ (by simp) _) | (refine Gr.trans ?_ (by assumption)))), by omega⟩
        case measure => simp [intOf]; omega
      · have hI : dlO ⟨xk, xt, ⟨xa, xb, xv⟩, xc, ats⟩ = 0 := by unfold dlO; rw [if_neg h4]
        rw [hI] at ht
        have k4 : (xk == 4) = false := by simp; omega
        clear hI
        go_wp2
        go_roundw
        case rel => exact ⟨k + 1, t, by omega, by go_num, rfl, by omega, (by repeat (with_reducible first | assumption | exact Gr.refl _ | apply Gr.alloc | apply Gr.drewN | apply Gr.drew | apply Gr.iter | (refine Gr.setCell ?_ (by simp) _) | (refine Gr.trans ?_ (by assumption)))), by omega⟩
        case measure => simp [intOf]; omega
    · obtain rfl : k = n := by omega
      rw [List.drop_eq_nil_of_le (by rw [hn.out]; exact Nat.le_refl _)] at ht
      simp only [List.map_nil, List.sum_nil, Int.add_zero] at ht
      subst ht
      go_wp2
      go_ret
      exact ⟨rfl, hg⟩
/-- Inserts alone. -/
def docL (l : List Op) : Bool := l.all isIns
set_option maxRecDepth 20000 in
set_option maxHeartbeats 2000000 in
theorem rdoc08_any (l : List Op) (v : Value) (w : World) (hl : RdOps w v l) :
    Calls Tryz.prog 56 #[v] w fun e w' => e = .returned (.bool (docL l)) ∧ Gr w w' := by
  obtain ⟨a, n, cap, rfl, hcap, hm, hb, hn⟩ := hl.sl
  go_enter Tryz.func56, Tryz.ntmps56
  go_wp2
  go_loopw [3] (fun i wr => ∃ (k : Nat), k ≤ n ∧ i = .int .i64 k ∧ Gr w wr ∧ docL (l.drop k) = docL l) (fun i _ => n - (intOf i).toNat)
  case atStart => exact ⟨0, Nat.zero_le _, rfl, Gr.refl _, rfl⟩
  case round =>
    obtain ⟨k, hk, rfl, hg, ht⟩ := hrel
    by_cases hlt : k < n
    · obtain ⟨blk, off, xk, xt, xa, xb, xv, xc, ats, sl, hx, rfl, hr, c0, c1, c2, c3, c4, c5, c6, s1, s2⟩ := (RdOps.gr hl hg).at_ k hlt
      rw [drop_cons hx] at ht
      have ht2 : (isIns ⟨xk, xt, ⟨xa, xb, xv⟩, xc, ats⟩ && docL (l.drop (k + 1))) = docL l := by rw [← ht]; simp [docL]
      clear hx ht
      have hlt' : (k : Int) < n := by omega
      by_cases h12 : xk = 1 ∨ xk = 2
      · have hI : isIns ⟨xk, xt, ⟨xa, xb, xv⟩, xc, ats⟩ = true := by rcases h12 with rfl | rfl <;> simp [isIns]
        rw [hI, Bool.true_and] at ht2
        have HT := Lib.hid ht2; clear ht2 hI
        rcases h12 with rfl | rfl
        all_goals
          go_wp2
          go_roundw
          case rel => exact ⟨k + 1, by omega, by go_num, (by repeat (with_reducible first | assumption | exact Gr.refl _ | apply Gr.alloc | apply Gr.drewN | apply Gr.drew | apply Gr.iter | (refine Gr.setCell ?_ (by simp) _) | (refine Gr.trans ?_ (by assumption)))), HT.out⟩
          case measure => simp [intOf]; omega
      · have hI : isIns ⟨xk, xt, ⟨xa, xb, xv⟩, xc, ats⟩ = false := by simp [isIns]; omega
        rw [hI, Bool.false_and] at ht2
        have HT := Lib.hid ht2; clear ht2 hI
        have k1 : (xk == 1) = false := by simp; omega
        have k2 : (xk == 2) = false := by simp; omega
        have k3 : (xk != 1) = true := by simp; omega
        have k4 : (xk != 2) = true := by simp; omega
        go_wp2
        go_ret
        refine ⟨?_, hg⟩
        rw [← HT.out]
        rfl
    · obtain rfl : k = n := by omega
      rw [List.drop_eq_nil_of_le (by rw [hn.out]; exact Nat.le_refl _)] at ht
      have HT := Lib.hid ht; clear ht
      go_wp2
      go_ret
      exact ⟨by rw [← HT.out]; rfl, hg⟩
end Ve
