/- Walks of comparisons of attributes; the reference's and the library's. -/
import Derived.Test.YtapolkhdikdjbaaGreatDoorP2
set_option linter.all false
namespace Ve
open Go Go.RowKit Go.Proofs

set_option maxHeartbeats 400000 in
theorem sameLib_any (la lb : List Attr) (va vb : Value) (w : World) (ha : RdAttrs w va la) (hb : RdAttrs w vb lb) :
    Calls Tryz.prog 178 #[va, vb] w fun e w' => e = .returned (.bool (decide (la = lb))) ∧ Gr w w' := by
  obtain ⟨aa, n, ca, rfl, hla, hma, -, hna⟩ := ha.sl
  obtain ⟨ab, m, cb, rfl, hlb, hmb, -, hnb⟩ := hb.sl
  by_cases hlen : n = m
  · subst hlen
    go_enter Tryz.func178, Tryz.ntmps178
    go_wp2
    go_loopw [5, 13] (fun _ i wr => ∃ k : Nat, k ≤ n ∧ i = .int .i64 k ∧ Gr w wr ∧ la.take k = lb.take k) (fun _ i _ => n - (intOf i).toNat)
    case atStart => exact ⟨0, Nat.zero_le _, rfl, Gr.refl _, rfl⟩
    case round =>
      obtain ⟨k, hk, rfl, hg, ht⟩ := hrel
      have Ht := Lib.hid ht; clear ht
      by_cases hlt : k < n
      · obtain ⟨b1, o1, xk, xa, xb, xt, hx, rfl, a0, a1, a2, a3, -, -⟩ := (RdAttrs.gr ha hg).at_ k hlt
        obtain ⟨b2, o2, yk, ya, yb, yt, hy, rfl, c0, c1, c2, c3, -, -⟩ := (RdAttrs.gr hb hg).at_ k hlt
        have H := Lib.hid (And.intro hx hy); clear hx hy
        have hlt' : (k : Int) < n := by omega
        go_wp2
        go_quiet (fail)
        go_wp2
        · rename_i h
          have h := (eqA_eq ⟨xk, ⟨xa, xb, xt⟩⟩ ⟨yk, ⟨ya, yb, yt⟩⟩).symm.trans (show eqA xk xa xb xt yk ya yb yt = false by simpa using h)
          go_ret
          refine ⟨ret_bool ?_, (by repeat (with_reducible first | assumption | exact Gr.refl _ | apply Gr.alloc | apply Gr.drewN | apply Gr.drew | apply Gr.iter | (refine Gr.setCell ?_ (by simp) _) | (refine Gr.trans ?_ (by assumption))))⟩
          obtain ⟨hx, hy⟩ := H.out
          simp only [decide_eq_false_iff_not] at h
          simp only [Bool.false_eq, decide_eq_false_iff_not]
          intro e
          subst e
          exact h (Option.some.inj (hx.symm.trans hy))
        · rename_i h
          have h := (eqA_eq ⟨xk, ⟨xa, xb, xt⟩⟩ ⟨yk, ⟨ya, yb, yt⟩⟩).symm.trans (show eqA xk xa xb xt yk ya yb yt = true by simpa using h)
          have h := Lib.hid (of_decide_eq_true h)
          go_roundw
          case rel =>
            obtain ⟨hx, hy⟩ := H.out
            refine ⟨k + 1, by omega, by go_num, (by repeat (with_reducible first | assumption | exact Gr.refl _ | apply Gr.alloc | apply Gr.drewN | apply Gr.drew | apply Gr.iter | (refine Gr.setCell ?_ (by simp) _) | (refine Gr.trans ?_ (by assumption)))), ?_⟩
            rw [List.take_succ, List.take_succ, Ht.out, hx, hy, h.out]
          case measure => simp [intOf]; omega
      · obtain rfl : k = n := by omega
        go_wp2
        go_ret
        refine ⟨ret_bool ?_, (by repeat (with_reducible first | assumption | exact Gr.refl _ | apply Gr.alloc | apply Gr.drewN | apply Gr.drew | apply Gr.iter | (refine Gr.setCell ?_ (by simp) _) | (refine Gr.trans ?_ (by assumption))))⟩
        have ht := Ht.out
        have e1 := hna.out
        have e2 := hnb.out
        rw [List.take_of_length_le (by omega), List.take_of_length_le (by omega)] at ht
        simp [ht]
  · go_enter Tryz.func178, Tryz.ntmps178
    go_wp2
    go_ret
    exact ⟨ret_bool (by have e1 := hna.out; have e2 := hnb.out; simp; rintro rfl; omega), Gr.refl _⟩
set_option maxHeartbeats 400000 in
theorem sameRef_any (la lb : List Attr) (va vb : Value) (w : World) (ha : RdAttrs w va la) (hb : RdAttrs w vb lb) :
    Calls Tryz.prog 111 #[va, vb] w fun e w' => e = .returned (.bool (decide (la = lb))) ∧ Gr w w' := by
  obtain ⟨aa, n, ca, rfl, hla, hma, -, hna⟩ := ha.sl
  obtain ⟨ab, m, cb, rfl, hlb, hmb, -, hnb⟩ := hb.sl
  by_cases hlen : n = m
  · subst hlen
    go_enter Tryz.func111, Tryz.ntmps111
    go_wp2
    go_loopw [5, 13] (fun _ i wr => ∃ k : Nat, k ≤ n ∧ i = .int .i64 k ∧ Gr w wr ∧ la.take k = lb.take k) (fun _ i _ => n - (intOf i).toNat)
    case atStart => exact ⟨0, Nat.zero_le _, rfl, Gr.refl _, rfl⟩
    case round =>
      obtain ⟨k, hk, rfl, hg, ht⟩ := hrel
      have Ht := Lib.hid ht; clear ht
      by_cases hlt : k < n
      · obtain ⟨b1, o1, xk, xa, xb, xt, hx, rfl, a0, a1, a2, a3, -, -⟩ := (RdAttrs.gr ha hg).at_ k hlt
        obtain ⟨b2, o2, yk, ya, yb, yt, hy, rfl, c0, c1, c2, c3, -, -⟩ := (RdAttrs.gr hb hg).at_ k hlt
        have H := Lib.hid (And.intro hx hy); clear hx hy
        have hlt' : (k : Int) < n := by omega
        go_wp2
        go_quiet (fail)
        go_wp2
        · rename_i h
          have h := (eqA_eq ⟨xk, ⟨xa, xb, xt⟩⟩ ⟨yk, ⟨ya, yb, yt⟩⟩).symm.trans (show eqA xk xa xb xt yk ya yb yt = false by simpa using h)
          go_ret
          refine ⟨ret_bool ?_, (by repeat (with_reducible first | assumption | exact Gr.refl _ | apply Gr.alloc | apply Gr.drewN | apply Gr.drew | apply Gr.iter | (refine Gr.setCell ?_ (by simp) _) | (refine Gr.trans ?_ (by assumption))))⟩
          obtain ⟨hx, hy⟩ := H.out
          simp only [decide_eq_false_iff_not] at h
          simp only [Bool.false_eq, decide_eq_false_iff_not]
          intro e
          subst e
          exact h (Option.some.inj (hx.symm.trans hy))
        · rename_i h
          have h := (eqA_eq ⟨xk, ⟨xa, xb, xt⟩⟩ ⟨yk, ⟨ya, yb, yt⟩⟩).symm.trans (show eqA xk xa xb xt yk ya yb yt = true by simpa using h)
          have h := Lib.hid (of_decide_eq_true h)
          go_roundw
          case rel =>
            obtain ⟨hx, hy⟩ := H.out
            refine ⟨k + 1, by omega, by go_num, (by repeat (with_reducible first | assumption | exact Gr.refl _ | apply Gr.alloc | apply Gr.drewN | apply Gr.drew | apply Gr.iter | (refine Gr.setCell ?_ (by simp) _) | (refine Gr.trans ?_ (by assumption)))), ?_⟩
            rw [List.take_succ, List.take_succ, Ht.out, hx, hy, h.out]
          case measure => simp [intOf]; omega
      · obtain rfl : k = n := by omega
        go_wp2
        go_ret
        refine ⟨ret_bool ?_, (by repeat (with_reducible first | assumption | exact Gr.refl _ | apply Gr.alloc | apply Gr.drewN | apply Gr.drew | apply Gr.iter | (refine Gr.setCell ?_ (by simp) _) | (refine Gr.trans ?_ (by assumption))))⟩
        have ht := Ht.out
        have e1 := hna.out
        have e2 := hnb.out
        rw [List.take_of_length_le (by omega), List.take_of_length_le (by omega)] at ht
        simp [ht]
  · go_enter Tryz.func111, Tryz.ntmps111
    go_wp2
    go_ret
    exact ⟨ret_bool (by have e1 := hna.out; have e2 := hnb.out; simp; rintro rfl; omega), Gr.refl _⟩
set_option maxHeartbeats 400000 in
theorem sameRef3_any (la lb : List Attr) (va vb : Value) (w : World) (ha : RdAttrs w va la) (hb : RdAttrs w vb lb) :
    Calls Tryz.prog 153 #[va, vb] w fun e w' => e = .returned (.bool (decide (la = lb))) ∧ Gr w w' := by
  obtain ⟨aa, n, ca, rfl, hla, hma, -, hna⟩ := ha.sl
  obtain ⟨ab, m, cb, rfl, hlb, hmb, -, hnb⟩ := hb.sl
  by_cases hlen : n = m
  · subst hlen
    go_enter Tryz.func153, Tryz.ntmps153
    go_wp2
    go_loopw [5, 13] (fun _ i wr => ∃ k : Nat, k ≤ n ∧ i = .int .i64 k ∧ Gr w wr ∧ la.take k = lb.take k) (fun _ i _ => n - (intOf i).toNat)
    case atStart => exact ⟨0, Nat.zero_le _, rfl, Gr.refl _, rfl⟩
    case round =>
      obtain ⟨k, hk, rfl, hg, ht⟩ := hrel
      have Ht := Lib.hid ht; clear ht
      by_cases hlt : k < n
      · obtain ⟨b1, o1, xk, xa, xb, xt, hx, rfl, a0, a1, a2, a3, -, -⟩ := (RdAttrs.gr ha hg).at_ k hlt
        obtain ⟨b2, o2, yk, ya, yb, yt, hy, rfl, c0, c1, c2, c3, -, -⟩ := (RdAttrs.gr hb hg).at_ k hlt
        have H := Lib.hid (And.intro hx hy); clear hx hy
        have hlt' : (k : Int) < n := by omega
        go_wp2
        go_quiet (fail)
        go_wp2
        · rename_i h
          have h := (eqA_eq ⟨xk, ⟨xa, xb, xt⟩⟩ ⟨yk, ⟨ya, yb, yt⟩⟩).symm.trans (show eqA xk xa xb xt yk ya yb yt = false by simpa using h)
          go_ret
          refine ⟨ret_bool ?_, (by repeat (with_reducible first | assumption | exact Gr.refl _ | apply Gr.alloc | apply Gr.drewN | apply Gr.drew | apply Gr.iter | (refine Gr.setCell ?_ (by simp) _) | (refine Gr.trans ?_ (by assumption))))⟩
          obtain ⟨hx, hy⟩ := H.out
          simp only [decide_eq_false_iff_not] at h
          simp only [Bool.false_eq, decide_eq_false_iff_not]
          intro e
          subst e
          exact h (Option.some.inj (hx.symm.trans hy))
        · rename_i h
          have h := (eqA_eq ⟨xk, ⟨xa, xb, xt⟩⟩ ⟨yk, ⟨ya, yb, yt⟩⟩).symm.trans (show eqA xk xa xb xt yk ya yb yt = true by simpa using h)
          have h := Lib.hid (of_decide_eq_true h)
          go_roundw
          case rel =>
            obtain ⟨hx, hy⟩ := H.out
            refine ⟨k + 1, by omega, by go_num, (by repeat (with_reducible first | assumption | exact Gr.refl _ | apply Gr.alloc | apply Gr.drewN | apply Gr.drew | apply Gr.iter | (refine Gr.setCell ?_ (by simp) _) | (refine Gr.trans ?_ (by assumption)))), ?_⟩
            rw [List.take_succ, List.take_succ, Ht.out, hx, hy, h.out]
          case measure => simp [intOf]; omega
      · obtain rfl : k = n := by omega
        go_wp2
        go_ret
        refine ⟨ret_bool ?_, (by repeat (with_reducible first | assumption | exact Gr.refl _ | apply Gr.alloc | apply Gr.drewN | apply Gr.drew | apply Gr.iter | (refine Gr.setCell ?_ (by simp) _) | (refine Gr.trans ?_ (by assumption))))⟩
        have ht := Ht.out
        have e1 := hna.out
        have e2 := hnb.out
        rw [List.take_of_length_le (by omega), List.take_of_length_le (by omega)] at ht
        simp [ht]
  · go_enter Tryz.func153, Tryz.ntmps153
    go_wp2
    go_ret
    exact ⟨ret_bool (by have e1 := hna.out; have e2 := hnb.out; simp; rintro rfl; omega), Gr.refl _⟩
set_option maxHeartbeats 400000 in
theorem same_any (la lb : List Attr) (va vb : Value) (w : World) (ha : RdAttrs w va la) (hb : RdAttrs w vb lb) :
    Calls Tryz.prog 155 #[va, vb] w fun e w' => e = .returned (.bool (decide (la = lb))) ∧ Gr w w' := by
  obtain ⟨aa, na, ca, rfl, -, -, -, -⟩ := ha.sl
  obtain ⟨ab, nb, cb, rfl, -, -, -, -⟩ := hb.sl
  go_enter Tryz.func155, Tryz.ntmps155
  go_wp2_with (go_at_call 178; refine (sameLib_any _ _ _ _ _ ha hb).mono ?_; rintro e w' ⟨rfl, hg⟩)
  go_ret
  exact ⟨rfl, (by repeat (with_reducible first | assumption | exact Gr.refl _ | apply Gr.alloc | apply Gr.drewN | apply Gr.drew | apply Gr.iter | (refine Gr.setCell ?_ (by simp) _) | (refine Gr.trans ?_ (by assumption))))⟩
end Ve
