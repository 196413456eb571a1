/- The four numbers of a delta: Base, Result, Inserted, Deleted; Document. -/
import Derived.Test.YtmdakddgeagnmaaDoorM1
set_option linter.all false
namespace Ve
open Go Go.RowKit Go.Proofs

set_option maxHeartbeats 400000 in
theorem base_any {ea : Nat → Addr} (ps : List Piece) (v : Value) (w : World) (hE : Env ea w) (hD : DeltaR w v ps) (hok : PsOk ps) (hb : bsum ps ≤ 1099511627776) (hr : rsum ps ≤ 1099511627776) :
    Calls Tryd.prog 24 #[v] w fun e w' => e = .returned (.int .i64 (bsum ps)) ∧ Gr w w' := by
  obtain ⟨g, sl, rfl, hBD, hrd⟩ := hD
  have hD : DeltaR w (.pointer (some ⟨g, 0, none⟩)) ps := ⟨g, sl, rfl, hBD, hrd⟩
  obtain ⟨s1, s2, s3, s4, s5⟩ := sums_nn hok.nn
  have HB := Lib.hid (And.intro hb hr)
  rw [s4] at hb; (try rw [s4])
  rw [s5] at hr; (try rw [s5])
  obtain ⟨I, hI⟩ : ∃ I, isum ps = I := ⟨_, rfl⟩
  obtain ⟨K, hK⟩ : ∃ K, ksum ps = K := ⟨_, rfl⟩
  obtain ⟨D, hDD⟩ : ∃ D, dsum ps = D := ⟨_, rfl⟩
  rw [hI] at s1 hr; (try rw [hI])
  rw [hK] at s2 hr hb; (try rw [hK])
  rw [hDD] at s3 hb; (try rw [hDD])
  have H := Lib.hid (And.intro hI (And.intro hK hDD)); clear hI hK hDD s4 s5 hBD hrd
  go_enter Tryd.func24, Tryd.ntmps24
  go_wp2_with (go_at_call 44; refine (lengths_any ps _ _ (hE.gr (by repeat (with_reducible first | assumption | exact Gr.refl _ | apply Gr.alloc | apply Gr.drewN | apply Gr.drew | apply Gr.iter | (refine Gr.setCell ?_ (by simp) _) | (refine Gr.trans ?_ (by assumption))))) (hD.gr (by repeat (with_reducible first | assumption | exact Gr.refl _ | apply Gr.alloc | apply Gr.drewN | apply Gr.drew | apply Gr.iter | (refine Gr.setCell ?_ (by simp) _) | (refine Gr.trans ?_ (by assumption))))) hok HB.out.1 HB.out.2).mono ?_; rw [H.out.1, H.out.2.1, H.out.2.2]; rintro e w1 ⟨rfl, hg1⟩)
  go_ret
  exact ⟨rfl, (by repeat (with_reducible first | assumption | exact Gr.refl _ | apply Gr.alloc | apply Gr.drewN | apply Gr.drew | apply Gr.iter | (refine Gr.setCell ?_ (by simp) _) | (refine Gr.trans ?_ (by assumption))))⟩
set_option maxHeartbeats 400000 in
theorem result_any {ea : Nat → Addr} (ps : List Piece) (v : Value) (w : World) (hE : Env ea w) (hD : DeltaR w v ps) (hok : PsOk ps) (hb : bsum ps ≤ 1099511627776) (hr : rsum ps ≤ 1099511627776) :
    Calls Tryd.prog 25 #[v] w fun e w' => e = .returned (.int .i64 (rsum ps)) ∧ Gr w w' := by
  obtain ⟨g, sl, rfl, hBD, hrd⟩ := hD
  have hD : DeltaR w (.pointer (some ⟨g, 0, none⟩)) ps := ⟨g, sl, rfl, hBD, hrd⟩
  obtain ⟨s1, s2, s3, s4, s5⟩ := sums_nn hok.nn
  have HB := Lib.hid (And.intro hb hr)
  rw [s4] at hb; (try rw [s4])
  rw [s5] at hr; (try rw [s5])
  obtain ⟨I, hI⟩ : ∃ I, isum ps = I := ⟨_, rfl⟩
  obtain ⟨K, hK⟩ : ∃ K, ksum ps = K := ⟨_, rfl⟩
  obtain ⟨D, hDD⟩ : ∃ D, dsum ps = D := ⟨_, rfl⟩
  rw [hI] at s1 hr; (try rw [hI])
  rw [hK] at s2 hr hb; (try rw [hK])
  rw [hDD] at s3 hb; (try rw [hDD])
  have H := Lib.hid (And.intro hI (And.intro hK hDD)); clear hI hK hDD s4 s5 hBD hrd
  go_enter Tryd.func25, Tryd.ntmps25
  go_wp2_with (go_at_call 44; refine (lengths_any ps _ _ (hE.gr (by repeat (with_reducible first | assumption | exact Gr.refl _ | apply Gr.alloc | apply Gr.drewN | apply Gr.drew | apply Gr.iter | (refine Gr.setCell ?_ (by simp) _) | (refine Gr.trans ?_ (by assumption))))) (hD.gr (by repeat (with_reducible first | assumption | exact Gr.refl _ | apply Gr.alloc | apply Gr.drewN | apply Gr.drew | apply Gr.iter | (refine Gr.setCell ?_ (by simp) _) | (refine Gr.trans ?_ (by assumption))))) hok HB.out.1 HB.out.2).mono ?_; rw [H.out.1, H.out.2.1, H.out.2.2]; rintro e w1 ⟨rfl, hg1⟩)
  go_ret
  exact ⟨rfl, (by repeat (with_reducible first | assumption | exact Gr.refl _ | apply Gr.alloc | apply Gr.drewN | apply Gr.drew | apply Gr.iter | (refine Gr.setCell ?_ (by simp) _) | (refine Gr.trans ?_ (by assumption))))⟩
set_option maxHeartbeats 400000 in
theorem inserted_any {ea : Nat → Addr} (ps : List Piece) (v : Value) (w : World) (hE : Env ea w) (hD : DeltaR w v ps) (hok : PsOk ps) (hb : bsum ps ≤ 1099511627776) (hr : rsum ps ≤ 1099511627776) :
    Calls Tryd.prog 26 #[v] w fun e w' => e = .returned (.int .i64 (isum ps)) ∧ Gr w w' := by
  obtain ⟨g, sl, rfl, hBD, hrd⟩ := hD
  have hD : DeltaR w (.pointer (some ⟨g, 0, none⟩)) ps := ⟨g, sl, rfl, hBD, hrd⟩
  obtain ⟨s1, s2, s3, s4, s5⟩ := sums_nn hok.nn
  have HB := Lib.hid (And.intro hb hr)
  rw [s4] at hb; (try rw [s4])
  rw [s5] at hr; (try rw [s5])
  obtain ⟨I, hI⟩ : ∃ I, isum ps = I := ⟨_, rfl⟩
  obtain ⟨K, hK⟩ : ∃ K, ksum ps = K := ⟨_, rfl⟩
  obtain ⟨D, hDD⟩ : ∃ D, dsum ps = D := ⟨_, rfl⟩
  rw [hI] at s1 hr; (try rw [hI])
  rw [hK] at s2 hr hb; (try rw [hK])
  rw [hDD] at s3 hb; (try rw [hDD])
  have H := Lib.hid (And.intro hI (And.intro hK hDD)); clear hI hK hDD s4 s5 hBD hrd
  go_enter Tryd.func26, Tryd.ntmps26
  go_wp2_with (go_at_call 44; refine (lengths_any ps _ _ (hE.gr (by repeat (with_reducible first | assumption | exact Gr.refl _ | apply Gr.alloc | apply Gr.drewN | apply Gr.drew | apply Gr.iter | (refine Gr.setCell ?_ (by simp) _) | (refine Gr.trans ?_ (by assumption))))) (hD.gr (by repeat (with_reducible first | assumption | exact Gr.refl _ | apply Gr.alloc | apply Gr.drewN | apply Gr.drew | apply Gr.iter | (refine Gr.setCell ?_ (by simp) _) | (refine Gr.trans ?_ (by assumption))))) hok HB.out.1 HB.out.2).mono ?_; rw [H.out.1, H.out.2.1, H.out.2.2]; rintro e w1 ⟨rfl, hg1⟩)
  go_ret
  exact ⟨rfl, (by repeat (with_reducible first | assumption | exact Gr.refl _ | apply Gr.alloc | apply Gr.drewN | apply Gr.drew | apply Gr.iter | (refine Gr.setCell ?_ (by simp) _) | (refine Gr.trans ?_ (by assumption))))⟩
set_option maxHeartbeats 400000 in
theorem mdeleted_any {ea : Nat → Addr} (ps : List Piece) (v : Value) (w : World) (hE : Env ea w) (hD : DeltaR w v ps) (hok : PsOk ps) (hb : bsum ps ≤ 1099511627776) (hr : rsum ps ≤ 1099511627776) :
    Calls Tryd.prog 27 #[v] w fun e w' => e = .returned (.int .i64 (dsum ps)) ∧ Gr w w' := by
  obtain ⟨g, sl, rfl, hBD, hrd⟩ := hD
  have hD : DeltaR w (.pointer (some ⟨g, 0, none⟩)) ps := ⟨g, sl, rfl, hBD, hrd⟩
  obtain ⟨s1, s2, s3, s4, s5⟩ := sums_nn hok.nn
  have HB := Lib.hid (And.intro hb hr)
  rw [s4] at hb; (try rw [s4])
  rw [s5] at hr; (try rw [s5])
  obtain ⟨I, hI⟩ : ∃ I, isum ps = I := ⟨_, rfl⟩
  obtain ⟨K, hK⟩ : ∃ K, ksum ps = K := ⟨_, rfl⟩
  obtain ⟨D, hDD⟩ : ∃ D, dsum ps = D := ⟨_, rfl⟩
  rw [hI] at s1 hr; (try rw [hI])
  rw [hK] at s2 hr hb; (try rw [hK])
  rw [hDD] at s3 hb; (try rw [hDD])
  have H := Lib.hid (And.intro hI (And.intro hK hDD)); clear hI hK hDD s4 s5 hBD hrd
  go_enter Tryd.func27, Tryd.ntmps27
  go_wp2_with (go_at_call 44; refine (lengths_any ps _ _ (hE.gr (by repeat (with_reducible first | assumption | exact Gr.refl _ | apply Gr.alloc | apply Gr.drewN | apply Gr.drew | apply Gr.iter | (refine Gr.setCell ?_ (by simp) _) | (refine Gr.trans ?_ (by assumption))))) (hD.gr (by repeat (with_reducible first | assumption | exact Gr.refl _ | apply Gr.alloc | apply Gr.drewN | apply Gr.drew | apply Gr.iter | (refine Gr.setCell ?_ (by simp) _) | (refine Gr.trans ?_ (by assumption))))) hok HB.out.1 HB.out.2).mono ?_; rw [H.out.1, H.out.2.1, H.out.2.2]; rintro e w1 ⟨rfl, hg1⟩)
  go_ret
  exact ⟨rfl, (by repeat (with_reducible first | assumption | exact Gr.refl _ | apply Gr.alloc | apply Gr.drewN | apply Gr.drew | apply Gr.iter | (refine Gr.setCell ?_ (by simp) _) | (refine Gr.trans ?_ (by assumption))))⟩
end Ve
