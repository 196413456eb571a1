/- Walks of layer 3, the program's side: attrs.null, pair, Check, Same, slices.Equal; and vellumref04.SameAttrs. -/
import Derived.Test.YtmdakddgeagnmaaDoorG2
set_option linter.all false
namespace Ve
open Go Go.RowKit Go.Proofs

set_option maxHeartbeats 400000 in
theorem null_any (k : ByteArray) (a b : Int) (t : ByteArray) (w : World) :
    Calls Tryd.prog 88 #[.agg #[.string k, .int .i64 a, .int .i64 b, .string t]] w fun e w' => e = .returned (.bool (a == 0)) ∧ Gr w w' := by
  go_enter Tryd.func88, Tryd.ntmps88
  go_wp2
  go_ret
  exact ⟨ret_bool rfl, (by repeat (with_reducible first | assumption | exact Gr.refl _ | apply Gr.alloc | apply Gr.drewN | apply Gr.drew | apply Gr.iter | (refine Gr.setCell ?_ (by simp) _) | (refine Gr.trans ?_ (by assumption))))⟩
set_option maxHeartbeats 400000 in
theorem pair_any {ea : Nat → Addr} (k : ByteArray) (a b : Int) (t : ByteArray) (w : World) (hE : Env ea w) (hk : szS k) (ht : szS t) :
    Calls Tryd.prog 87 #[.agg #[.string k, .int .i64 a, .int .i64 b, .string t]] w fun e w' => e = .returned (errOf ea (checkPair ⟨k, ⟨a, b, t⟩⟩)) ∧ Gr w w' := by
  have e6 := hE.e6; have z6 := cell_lt e6
  go_enter Tryd.func87, Tryd.ntmps87
  go_wp2_with (first
    | (go_at_call 92; refine (scheck_any _ _ (hE.gr (by repeat (with_reducible first | assumption | exact Gr.refl _ | apply Gr.alloc | apply Gr.drewN | apply Gr.drew | apply Gr.iter | (refine Gr.setCell ?_ (by simp) _) | (refine Gr.trans ?_ (by assumption))))) hk.le).mono ?_; rintro e w' ⟨rfl, hg⟩; have hc0 := fun o => hg.cells w.heap.size o (by simp))
    | (go_at_call 93; refine (vcheck_any _ _ _ _ (hE.gr (by repeat (with_reducible first | assumption | exact Gr.refl _ | apply Gr.alloc | apply Gr.drewN | apply Gr.drew | apply Gr.iter | (refine Gr.setCell ?_ (by simp) _) | (refine Gr.trans ?_ (by assumption))))) ht.le).mono ?_; rintro e w'' ⟨rfl, hg'⟩))
  all_goals go_ret
  all_goals refine ⟨ret_err ?_, (by repeat (with_reducible first | assumption | exact Gr.refl _ | apply Gr.alloc | apply Gr.drewN | apply Gr.drew | apply Gr.iter | (refine Gr.setCell ?_ (by simp) _) | (refine Gr.trans ?_ (by assumption))))⟩
  all_goals simp_all [checkPair, eqS, es, utf8Err]
  all_goals omega
theorem checkFrom_step {nulls : Bool} {prev : Option ByteArray} {a : Attr} {r : List Attr} (h1 : checkPair a = 0) (h2 : ¬ (a.val.kind = 0 ∧ nulls = false))
    (h3 : notAfter prev a.key = false) : checkFrom nulls prev (a :: r) = checkFrom nulls (some a.key) r := by
  simp [checkFrom, h1, h2, h3]
/-- The key ahead of place k. -/
def prevKey (l : List Attr) : Nat → Option ByteArray
  | 0 => none
  | k + 1 => (l[k]?).map (·.key)
theorem drop_cons {α : Type} {l : List α} {k : Nat} {x : α} (h : l[k]? = some x) : l.drop k = x :: l.drop (k + 1) := by
  obtain ⟨hl, rfl⟩ := List.getElem?_eq_some_iff.1 h
  exact List.drop_eq_getElem_cons hl
set_option maxHeartbeats 1000000 in
theorem acheck_any {ea : Nat → Addr} (l : List Attr) (v : Value) (nulls : Bool) (w : World) (hE : Env ea w) (hl : RdAttrs w v l) :
    Calls Tryd.prog 75 #[v, .bool nulls] w fun e w' => e = .returned (errOf ea (checkAttrs nulls l)) ∧ Gr w w' := by
  obtain ⟨a, cap, rfl, hcap, hm, hb⟩ := hl.slice
  obtain ⟨n, hn⟩ : ∃ n, l.length = n := ⟨_, rfl⟩
  rw [hn] at hl hcap hb ⊢
  have Hn := Lib.hid hn; clear hn
  unfold maxLen at hm
  go_enter Tryd.func75, Tryd.ntmps75
  go_wp2
  go_loopw [10] (fun i wr => ∃ k : Nat, k ≤ n ∧ i = .int .i64 k ∧ Gr w wr ∧ checkFrom nulls (prevKey l k) (l.drop k) = checkAttrs nulls l) (fun i _ => n - (intOf i).toNat)
  case atStart => exact ⟨0, Nat.zero_le _, rfl, Gr.refl _, rfl⟩
  case round =>
    obtain ⟨k, hk, rfl, hg, ht⟩ := hrel
    have Ht := Lib.hid ht; clear ht
    by_cases hlt : k < n
    · obtain ⟨b, off, xk, xa, xb, xt, hx, rfl, a0, a1, a2, a3, s1, s2⟩ := (RdAttrs.gr hl hg).at_ k hlt
      have Hx := Lib.hid hx; clear hx
      have hlt' : (k : Int) < n := by omega
      have hE' := hE.gr hg
      have e7 := hE'.e7; have e8 := hE'.e8
      by_cases c0 : checkPair ⟨xk, ⟨xa, xb, xt⟩⟩ = 0
      · have c0' : decide (checkPair ⟨xk, ⟨xa, xb, xt⟩⟩ = 0) = true := by simpa using c0
        have C0 := Lib.hid c0; clear c0
        by_cases hz : xa = 0 ∧ nulls = false
        · obtain ⟨hz1, rfl⟩ := hz
          have hz : (xa == 0) = true := by simpa using hz1
          have Hz1 := Lib.hid hz1; clear hz1
          go_wp2_with (first
            | (go_at_call 87; refine (pair_any _ _ _ _ _ (hE'.gr (by repeat (with_reducible first | assumption | exact Gr.refl _ | apply Gr.alloc | apply Gr.drewN | apply Gr.drew | apply Gr.iter | (refine Gr.setCell ?_ (by simp) _) | (refine Gr.trans ?_ (by assumption))))) s1 s2).mono ?_; rintro e w' ⟨rfl, hg'⟩; have hc0 := fun o => hg'.cells wr.heap.size o (by simp))
            | (go_at_call 88; refine (null_any _ _ _ _ _).mono ?_; rintro e w'' ⟨rfl, hg''⟩; have e7'' := (hE'.gr (w' := w'') (by repeat (with_reducible first | assumption | exact Gr.refl _ | apply Gr.alloc | apply Gr.drewN | apply Gr.drew | apply Gr.iter | (refine Gr.setCell ?_ (by simp) _) | (refine Gr.trans ?_ (by assumption))))).e7))
          go_ret
          refine ⟨ret_err ?_, (by repeat (with_reducible first | assumption | exact Gr.refl _ | apply Gr.alloc | apply Gr.drewN | apply Gr.drew | apply Gr.iter | (refine Gr.setCell ?_ (by simp) _) | (refine Gr.trans ?_ (by assumption))))⟩
          rw [← Ht.out, drop_cons Hx.out]
          have h1 := C0.out
          have h2 := Hz1.out
          subst h2
          simp [checkFrom, h1]
        · have hB : (xa == 0) = false ∨ ((xa == 0) = true ∧ nulls = true) := by
            by_cases h : xa = 0
            · right; simp [h] at hz ⊢; exact hz
            · left; simpa using h
          have Hz := Lib.hid hz; clear hz
          rcases Nat.eq_zero_or_pos k with h0 | h0
          · subst h0
            simp only [Nat.zero_mul, Nat.add_zero] at a0 a1 a2 a3
            rcases hB with hB | ⟨hB, rfl⟩
            all_goals
              go_wp2_with (first
                | (go_at_call 87; refine (pair_any _ _ _ _ _ (hE'.gr (by repeat (with_reducible first | assumption | exact Gr.refl _ | apply Gr.alloc | apply Gr.drewN | apply Gr.drew | apply Gr.iter | (refine Gr.setCell ?_ (by simp) _) | (refine Gr.trans ?_ (by assumption))))) s1 s2).mono ?_; rintro e w' ⟨rfl, hg'⟩; have hc0 := fun o => hg'.cells wr.heap.size o (by simp))
                | (go_at_call 88; refine (null_any _ _ _ _ _).mono ?_; rintro e w'' ⟨rfl, hg''⟩))
              go_quiet (fail)
              go_wp2
              go_roundw
              case rel => exact ⟨1, by omega, by go_num, (by repeat (with_reducible first | assumption | exact Gr.refl _ | apply Gr.alloc | apply Gr.drewN | apply Gr.drew | apply Gr.iter | (refine Gr.setCell ?_ (by simp) _) | (refine Gr.trans ?_ (by assumption)))), by rw [← Ht.out, drop_cons Hx.out, checkFrom_step C0.out Hz.out rfl]; simp only [prevKey, Hx.out, Option.map_some]⟩
              case measure => simp [intOf]; omega
          · obtain ⟨j, rfl⟩ : ∃ j, k = j + 1 := ⟨k - 1, by omega⟩
            obtain ⟨b', off', yk, ya, yb, yt, hy, e', y0, _⟩ := (RdAttrs.gr hl hg).at_ j (by omega)
            injection e' with e'; injection e' with eb eo; subst eb eo
            have Hy := Lib.hid hy; clear hy
            have hgt : (0 : Int) < (j : Int) + 1 := by omega
            have hjn : (j : Int) < n := by omega
            cases hr : keyLt yk xk
            all_goals
              have Hr := Lib.hid hr
              rcases hB with hB | ⟨hB, rfl⟩
            all_goals
              go_wp2_with (first
                | (go_at_call 87; refine (pair_any _ _ _ _ _ (hE'.gr (by repeat (with_reducible first | assumption | exact Gr.refl _ | apply Gr.alloc | apply Gr.drewN | apply Gr.drew | apply Gr.iter | (refine Gr.setCell ?_ (by simp) _) | (refine Gr.trans ?_ (by assumption))))) s1 s2).mono ?_; rintro e w' ⟨rfl, hg'⟩; have hc0 := fun o => hg'.cells wr.heap.size o (by simp))
                | (go_at_call 88; refine (null_any _ _ _ _ _).mono ?_; rintro e w'' ⟨rfl, hg''⟩; have hc1 := fun o => hg''.cells wr.heap.size o (by have := hg'.size; simp at this; omega); have y0'' := hg''.cell (hg'.cell (((Gr.refl wr).alloc _).cell y0)); have e8'' := (hE'.gr (w' := w'') (by repeat (with_reducible first | assumption | exact Gr.refl _ | apply Gr.alloc | apply Gr.drewN | apply Gr.drew | apply Gr.iter | (refine Gr.setCell ?_ (by simp) _) | (refine Gr.trans ?_ (by assumption))))).e8))
              go_quiet (fail)
              go_wp2
            · go_ret
              refine ⟨ret_err ?_, (by repeat (with_reducible first | assumption | exact Gr.refl _ | apply Gr.alloc | apply Gr.drewN | apply Gr.drew | apply Gr.iter | (refine Gr.setCell ?_ (by simp) _) | (refine Gr.trans ?_ (by assumption))))⟩
              rw [← Ht.out, drop_cons Hx.out]
              have hp : notAfter (prevKey l (j + 1)) xk = true := by simp [notAfter, prevKey, Hy.out, Hr.out]
              simp [checkFrom, C0.out, hp]; exact fun h => by simpa [h] using Hz.out
            · go_ret
              refine ⟨ret_err ?_, (by repeat (with_reducible first | assumption | exact Gr.refl _ | apply Gr.alloc | apply Gr.drewN | apply Gr.drew | apply Gr.iter | (refine Gr.setCell ?_ (by simp) _) | (refine Gr.trans ?_ (by assumption))))⟩
              rw [← Ht.out, drop_cons Hx.out]
              have hp : notAfter (prevKey l (j + 1)) xk = true := by simp [notAfter, prevKey, Hy.out, Hr.out]
              simp [checkFrom, C0.out, hp]
            all_goals
              go_roundw
              case rel =>
                have hp : notAfter (prevKey l (j + 1)) xk = false := by simp [notAfter, prevKey, Hy.out, Hr.out]
                exact ⟨j + 2, by omega, by go_num, (by repeat (with_reducible first | assumption | exact Gr.refl _ | apply Gr.alloc | apply Gr.drewN | apply Gr.drew | apply Gr.iter | (refine Gr.setCell ?_ (by simp) _) | (refine Gr.trans ?_ (by assumption)))), by rw [← Ht.out, drop_cons Hx.out, checkFrom_step C0.out Hz.out hp]; simp only [prevKey, Hx.out, Option.map_some]⟩
              case measure => simp [intOf]; omega
      · go_wp2_with (first
          | (go_at_call 87; refine (pair_any _ _ _ _ _ (hE'.gr (by repeat (with_reducible first | assumption | exact Gr.refl _ | apply Gr.alloc | apply Gr.drewN | apply Gr.drew | apply Gr.iter | (refine Gr.setCell ?_ (by simp) _) | (refine Gr.trans ?_ (by assumption))))) s1 s2).mono ?_; rintro e w' ⟨rfl, hg'⟩))
        go_ret
        refine ⟨ret_err ?_, (by repeat (with_reducible first | assumption | exact Gr.refl _ | apply Gr.alloc | apply Gr.drewN | apply Gr.drew | apply Gr.iter | (refine Gr.setCell ?_ (by simp) _) | (refine Gr.trans ?_ (by assumption))))⟩
        rw [← Ht.out, drop_cons Hx.out]
        simp [checkFrom, c0]
    · obtain rfl : k = n := by omega
      go_wp2
      go_ret
      refine ⟨ret_nil ?_, (by repeat (with_reducible first | assumption | exact Gr.refl _ | apply Gr.alloc | apply Gr.drewN | apply Gr.drew | apply Gr.iter | (refine Gr.setCell ?_ (by simp) _) | (refine Gr.trans ?_ (by assumption))))⟩
      rw [← Ht.out, List.drop_eq_nil_of_le (by rw [Hn.out]; exact Nat.le_refl _)]
      rfl
end Ve
