/- Walks of the references of layers 2, 3: Check, pair. -/
import Derived.Test.YtnlpmajiccliiaaGreatDoorR3
import Derived.Test.YtnlpmajiccliiaaGreatDoorG7
set_option linter.all false
namespace Ve
open Go Go.RowKit Go.Proofs

theorem size_es (a : ByteArray) : a.size = 0 ↔ a = es := by
  constructor
  · intro h
    apply ba_ext
    have : a.data.toList.length = 0 := by rw [Array.length_toList]; exact h
    rw [List.eq_nil_of_length_eq_zero this]
    rfl
  · rintro rfl; rfl
theorem brk_es : brk es = 0 := rfl
theorem es_size : es.size = 0 := rfl
set_option maxHeartbeats 1000000 in
theorem rvcheck_any (k n : Int) (t : ByteArray) (w : World) (ht : szS t) :
    Calls Tryz.prog 172 #[.agg #[.int .i64 k, .int .i64 n, .string t]] w fun e w' => e = .returned (.int .i64 (checkPlain ⟨k, n, t⟩)) ∧ Gr w w' := by
  go_enter Tryz.func172, Tryz.ntmps172
  go_wp2_with (go_at_call 189; refine (rtext_any _ _ ht).mono ?_; rintro e w' ⟨rfl, hg⟩)
  all_goals go_ret
  all_goals refine ⟨ret_int ?_, (by repeat (with_reducible first | assumption | exact Gr.refl _ | apply Gr.alloc | apply Gr.drewN | apply Gr.drew | apply Gr.iter | (refine Gr.setCell ?_ (by simp) _) | (refine Gr.trans ?_ (by assumption))))⟩
  all_goals go_light
  all_goals simp_all [checkPlain, kindOk, eqS, brk_es, es_size]
  all_goals (first | omega | rfl | (exact ⟨by omega, rfl⟩) | (rename_i h; intro _; exact h.elim (fun h => by omega) id) | (intros; subst_vars; simp_all [es, brk_es]; done) | skip)
theorem checkPair_def (a : Attr) : checkPair a = if a.key = es ∨ 64 < a.key.size then 6 else if brk a.key = a.key.size then checkPlain a.val else 1 := rfl
set_option maxHeartbeats 1000000 in
theorem rpair_any {ea : Nat → Addr} (k : ByteArray) (a b : Int) (t : ByteArray) (w : World) (hE : Env ea w) (hk : szS k) (ht : szS t) :
    Calls Tryz.prog 185 #[.agg #[.string k, .int .i64 a, .int .i64 b, .string t]] w fun e w' => e = .returned (.int .i64 (checkPair ⟨k, ⟨a, b, t⟩⟩)) ∧ Gr w w' := by
  have hk' := hk.le40
  obtain ⟨vb, hvb⟩ : ∃ b, validS k = b := ⟨_, rfl⟩
  have HB := Lib.hid hvb; clear hvb
  obtain ⟨R, hR⟩ : ∃ R, checkPair ⟨k, ⟨a, b, t⟩⟩ = R := ⟨_, rfl⟩
  have hd := hR
  rw [checkPair_def] at hd
  simp only at hd
  rw [hR]
  clear hR
  have hes := size_es k
  by_cases h1 : k.size < 1
  · have h1' : (k.size : Int) < 1 := by omega
    rw [if_pos (.inl (hes.1 (by omega)))] at hd
    subst hd
    clear hes
    go_enter Tryz.func185, Tryz.ntmps185
    go_wp2
    go_ret
    exact ⟨rfl, (by repeat (with_reducible first | assumption | exact Gr.refl _ | apply Gr.alloc | apply Gr.drewN | apply Gr.drew | apply Gr.iter | (refine Gr.setCell ?_ (by simp) _) | (refine Gr.trans ?_ (by assumption))))⟩
  · by_cases h2 : 64 < k.size
    · have h2' : (64 : Int) < k.size := by omega
      rw [if_pos (.inr h2)] at hd
      subst hd
      clear hes
      go_enter Tryz.func185, Tryz.ntmps185
      go_wp2
      go_ret
      exact ⟨rfl, (by repeat (with_reducible first | assumption | exact Gr.refl _ | apply Gr.alloc | apply Gr.drewN | apply Gr.drew | apply Gr.iter | (refine Gr.setCell ?_ (by simp) _) | (refine Gr.trans ?_ (by assumption))))⟩
    · have h1' : (1 : Int) ≤ k.size := by omega
      have h2' : (k.size : Int) ≤ 64 := by omega
      have hno : ¬ (k = es ∨ 64 < k.size) := by
        rintro (h | h)
        · have := hes.2 h; omega
        · exact h2 h
      rw [if_neg hno] at hd
      clear hno
      have HD := Lib.hid hd; clear hd hes
      cases vb with
      | true =>
        obtain ⟨P, hP⟩ : ∃ P, checkPlain ⟨a, b, t⟩ = P := ⟨_, rfl⟩
        have HP := Lib.hid hP; clear hP
        go_enter Tryz.func185, Tryz.ntmps185
        go_wp2_with (first
          | (go_at_call 197; refine (valid_any _ _ (hE.gr (by repeat (with_reducible first | assumption | exact Gr.refl _ | apply Gr.alloc | apply Gr.drewN | apply Gr.drew | apply Gr.iter | (refine Gr.setCell ?_ (by simp) _) | (refine Gr.trans ?_ (by assumption))))) hk.le).mono ?_; rw [valid_brk, HB.out]; rintro e w' ⟨rfl, hg⟩; have hc0 := fun o => hg.cells w.heap.size o (by simp))
          | (go_at_call 172; refine (rvcheck_any _ _ _ _ ht).mono ?_; rw [HP.out]; rintro e w'' ⟨rfl, hg'⟩))
        go_ret
        refine ⟨ret_int ?_, (by repeat (with_reducible first | assumption | exact Gr.refl _ | apply Gr.alloc | apply Gr.drewN | apply Gr.drew | apply Gr.iter | (refine Gr.setCell ?_ (by simp) _) | (refine Gr.trans ?_ (by assumption))))⟩
        have hb := HB.out
        unfold validS at hb
        rw [← HD.out, if_pos (by simpa using hb), HP.out]
      | false =>
        go_enter Tryz.func185, Tryz.ntmps185
        go_wp2_with (go_at_call 197; refine (valid_any _ _ (hE.gr (by repeat (with_reducible first | assumption | exact Gr.refl _ | apply Gr.alloc | apply Gr.drewN | apply Gr.drew | apply Gr.iter | (refine Gr.setCell ?_ (by simp) _) | (refine Gr.trans ?_ (by assumption))))) hk.le).mono ?_; rw [valid_brk, HB.out]; rintro e w' ⟨rfl, hg⟩; have hc0 := fun o => hg.cells w.heap.size o (by simp))
        go_ret
        refine ⟨ret_int ?_, (by repeat (with_reducible first | assumption | exact Gr.refl _ | apply Gr.alloc | apply Gr.drewN | apply Gr.drew | apply Gr.iter | (refine Gr.setCell ?_ (by simp) _) | (refine Gr.trans ?_ (by assumption))))⟩
        have hb := HB.out
        unfold validS at hb
        rw [← HD.out, if_neg (by simpa using hb)]
set_option maxHeartbeats 1000000 in
theorem racheck_any {ea : Nat → Addr} (l : List Attr) (v : Value) (nulls : Bool) (w : World) (hE : Env ea w) (hl : RdAttrs w v l) :
    Calls Tryz.prog 163 #[v, .bool nulls] w fun e w' => e = .returned (.int .i64 (checkAttrs nulls l)) ∧ Gr w w' := by
  obtain ⟨a, cap, rfl, hcap, hm, hb⟩ := hl.slice
  obtain ⟨n, hn⟩ : ∃ n, l.length = n := ⟨_, rfl⟩
  rw [hn] at hl hcap hb ⊢
  have Hn := Lib.hid hn; clear hn
  unfold maxLen at hm
  go_enter Tryz.func163, Tryz.ntmps163
  go_wp2
  go_loopw [10] (fun i wr => ∃ k : Nat, k ≤ n ∧ i = .int .i64 k ∧ Gr w wr ∧ checkFrom nulls (prevKey l k) (l.drop k) = checkAttrs nulls l) (fun i _ => n - (intOf i).toNat)
  case atStart => exact ⟨0, Nat.zero_le _, rfl, Gr.refl _, rfl⟩
  case round =>
    obtain ⟨k, hk, rfl, hg, ht⟩ := hrel
    have Ht := Lib.hid ht; clear ht
    by_cases hlt : k < n
    · obtain ⟨b, off, xk, xa, xb, xt, hx, rfl, a0, a1, a2, a3, s1, s2⟩ := (RdAttrs.gr hl hg).at_ k hlt
      have Hx := Lib.hid hx; clear hx
      have hlt' : (k : Int) < n := by omega
      have hE' := hE.gr hg
      obtain ⟨P, hP⟩ : ∃ P, checkPair ⟨xk, ⟨xa, xb, xt⟩⟩ = P := ⟨_, rfl⟩
      have HP := Lib.hid hP; clear hP
      by_cases c0 : P = 0
      · subst c0
        by_cases hz : xa = 0 ∧ nulls = false
        · obtain ⟨hz1, rfl⟩ := hz
          have hz : (xa == 0) = true := by simpa using hz1
          have Hz1 := Lib.hid hz1; clear hz1
          go_wp2_with (go_at_call 185; refine (rpair_any _ _ _ _ _ (hE'.gr (by repeat (with_reducible first | assumption | exact Gr.refl _ | apply Gr.alloc | apply Gr.drewN | apply Gr.drew | apply Gr.iter | (refine Gr.setCell ?_ (by simp) _) | (refine Gr.trans ?_ (by assumption))))) s1 s2).mono ?_; rw [HP.out]; rintro e w' ⟨rfl, hg'⟩; have hc0 := fun o => hg'.cells wr.heap.size o (by simp))
          go_ret
          refine ⟨ret_int ?_, (by repeat (with_reducible first | assumption | exact Gr.refl _ | apply Gr.alloc | apply Gr.drewN | apply Gr.drew | apply Gr.iter | (refine Gr.setCell ?_ (by simp) _) | (refine Gr.trans ?_ (by assumption))))⟩
          rw [← Ht.out, drop_cons Hx.out]
          have h1 := HP.out
          have h2 := Hz1.out
          subst h2
          simp [checkFrom, h1]
        · have hB : (xa == 0) = false ∨ ((xa == 0) = true ∧ nulls = true) := by
            by_cases h : xa = 0
            · right; simp [h] at hz ⊢; exact hz
            · left; simpa using h
          have Hz := Lib.hid hz; clear hz
          rcases Nat.eq_zero_or_pos k with h0 | h0
          · subst h0
            simp only [Nat.zero_mul, Nat.add_zero] at a0 a1 a2 a3
            rcases hB with hB | ⟨hB, rfl⟩
            all_goals
              go_wp2_with (go_at_call 185; refine (rpair_any _ _ _ _ _ (hE'.gr (by repeat (with_reducible first | assumption | exact Gr.refl _ | apply Gr.alloc | apply Gr.drewN | apply Gr.drew | apply Gr.iter | (refine Gr.setCell ?_ (by simp) _) | (refine Gr.trans ?_ (by assumption))))) s1 s2).mono ?_; rw [HP.out]; rintro e w' ⟨rfl, hg'⟩; have hc0 := fun o => hg'.cells wr.heap.size o (by simp))
              go_quiet (fail)
              go_wp2
              go_roundw
              case rel => exact ⟨1, by omega, by go_num, (by repeat (with_reducible first | assumption | exact Gr.refl _ | apply Gr.alloc | apply Gr.drewN | apply Gr.drew | apply Gr.iter | (refine Gr.setCell ?_ (by simp) _) | (refine Gr.trans ?_ (by assumption)))), by rw [← Ht.out, drop_cons Hx.out, checkFrom_step HP.out Hz.out rfl]; simp only [prevKey, Hx.out, Option.map_some]⟩
              case measure => simp [intOf]; omega
          · obtain ⟨j, rfl⟩ : ∃ j, k = j + 1 := ⟨k - 1, by omega⟩
            obtain ⟨b', off', yk, ya, yb, yt, hy, e', y0, _⟩ := (RdAttrs.gr hl hg).at_ j (by omega)
            injection e' with e'; injection e' with eb eo; subst eb eo
            have Hy := Lib.hid hy; clear hy
            have hgt : (0 : Int) < (j : Int) + 1 := by omega
            have hjn : (j : Int) < n := by omega
            cases hr : keyLt yk xk
            all_goals
              have Hr := Lib.hid hr
              rcases hB with hB | ⟨hB, rfl⟩
            all_goals
              go_wp2_with (go_at_call 185; refine (rpair_any _ _ _ _ _ (hE'.gr (by repeat (with_reducible first | assumption | exact Gr.refl _ | apply Gr.alloc | apply Gr.drewN | apply Gr.drew | apply Gr.iter | (refine Gr.setCell ?_ (by simp) _) | (refine Gr.trans ?_ (by assumption))))) s1 s2).mono ?_; rw [HP.out]; rintro e w' ⟨rfl, hg'⟩; have hc0 := fun o => hg'.cells wr.heap.size o (by simp); have y0'' := hg'.cell (((Gr.refl wr).alloc _).cell y0))
              go_quiet (fail)
              go_wp2
            · go_ret
              refine ⟨ret_int ?_, (by repeat (with_reducible first | assumption | exact Gr.refl _ | apply Gr.alloc | apply Gr.drewN | apply Gr.drew | apply Gr.iter | (refine Gr.setCell ?_ (by simp) _) | (refine Gr.trans ?_ (by assumption))))⟩
              rw [← Ht.out, drop_cons Hx.out]
              have hp : notAfter (prevKey l (j + 1)) xk = true := by simp [notAfter, prevKey, Hy.out, Hr.out]
              simp [checkFrom, HP.out, hp]; exact fun h => by simpa [h] using Hz.out
            · go_ret
              refine ⟨ret_int ?_, (by repeat (with_reducible first | assumption | exact Gr.refl _ | apply Gr.alloc | apply Gr.drewN | apply Gr.drew | apply Gr.iter | (refine Gr.setCell ?_ (by simp) _) | (refine Gr.trans ?_ (by assumption))))⟩
              rw [← Ht.out, drop_cons Hx.out]
              have hp : notAfter (prevKey l (j + 1)) xk = true := by simp [notAfter, prevKey, Hy.out, Hr.out]
              simp [checkFrom, HP.out, hp]
            all_goals
              go_roundw
              case rel =>
                have hp : notAfter (prevKey l (j + 1)) xk = false := by simp [notAfter, prevKey, Hy.out, Hr.out]
                exact ⟨j + 2, by omega, by go_num, (by repeat (with_reducible first | assumption | exact Gr.refl _ | apply Gr.alloc | apply Gr.drewN | apply Gr.drew | apply Gr.iter | (refine Gr.setCell ?_ (by simp) _) | (refine Gr.trans ?_ (by assumption)))), by rw [← Ht.out, drop_cons Hx.out, checkFrom_step HP.out Hz.out hp]; simp only [prevKey, Hx.out, Option.map_some]⟩
              case measure => simp [intOf]; omega
      · have c0' : (P == 0) = false := by simpa using c0
        have c1' : (P != 0) = true := by simpa using c0
        have C0 := Lib.hid c0; clear c0
        go_wp2_with (go_at_call 185; refine (rpair_any _ _ _ _ _ (hE'.gr (by repeat (with_reducible first | assumption | exact Gr.refl _ | apply Gr.alloc | apply Gr.drewN | apply Gr.drew | apply Gr.iter | (refine Gr.setCell ?_ (by simp) _) | (refine Gr.trans ?_ (by assumption))))) s1 s2).mono ?_; rw [HP.out]; rintro e w' ⟨rfl, hg'⟩)
        go_ret
        refine ⟨ret_int ?_, (by repeat (with_reducible first | assumption | exact Gr.refl _ | apply Gr.alloc | apply Gr.drewN | apply Gr.drew | apply Gr.iter | (refine Gr.setCell ?_ (by simp) _) | (refine Gr.trans ?_ (by assumption))))⟩
        rw [← Ht.out, drop_cons Hx.out]
        simp [checkFrom, HP.out, C0.out]
    · obtain rfl : k = n := by omega
      go_wp2
      go_ret
      refine ⟨ret_int ?_, (by repeat (with_reducible first | assumption | exact Gr.refl _ | apply Gr.alloc | apply Gr.drewN | apply Gr.drew | apply Gr.iter | (refine Gr.setCell ?_ (by simp) _) | (refine Gr.trans ?_ (by assumption))))⟩
      rw [← Ht.out, List.drop_eq_nil_of_le (by rw [Hn.out]; exact Nat.le_refl _)]
      rfl
end Ve
/- Walks of the references of layers 4, 5: Refuse, empty, Check. -/
namespace Ve
open Go Go.RowKit Go.Proofs

set_option maxHeartbeats 4000000 in
theorem rrefuse_any {ea : Nat → Addr} (k : Int) (t : ByteArray) (va vb : Int) (vt : ByteArray) (c : Int) (sl : Value) (l : List Attr) (w : World) (hE : Env ea w) (hl : RdAttrs w sl l) (ht : szS t) (hvt : szS vt) :
    Calls Tryz.prog 150 #[.agg #[.int .i64 k, .string t, .int .i64 va, .int .i64 vb, .string vt, .int .i64 c, sl]] w fun e w' => e = .returned (.int .i64 (refuse ⟨k, t, ⟨va, vb, vt⟩, c, l⟩)) ∧ Gr w w' := by
  obtain ⟨a, cap, rfl, -⟩ := hl.slice
  have ht40 := ht.le40
  obtain ⟨vbt, hvb⟩ : ∃ b, validS t = b := ⟨_, rfl⟩
  have HB := Lib.hid hvb; clear hvb
  obtain ⟨P, hP⟩ : ∃ P, checkPlain ⟨va, vb, vt⟩ = P := ⟨_, rfl⟩
  have HP := Lib.hid hP; clear hP
  by_cases hk : k = 1 ∨ k = 2
  · rcases hk with rfl | rfl
    all_goals
      go_enter Tryz.func150, Tryz.ntmps150
      go_wp2_with (first
        | (go_at_call 171; refine (rutf8_any _ _ ht).mono ?_; rw [HB.out]; rintro e w' ⟨rfl, hg⟩; have hc0 := fun o => hg.cells w.heap.size o (by simp))
        | (go_at_call 172; refine (rvcheck_any _ _ _ _ hvt).mono ?_; rw [HP.out]; rintro e w2 ⟨rfl, hg2⟩; have hc2 := fun o => hg2.cells w.heap.size o (by have := hg.size; simp at this; omega))
        | (go_at_call 163; refine (racheck_any _ _ _ _ (hE.gr (by repeat (with_reducible first | assumption | exact Gr.refl _ | apply Gr.alloc | apply Gr.drewN | apply Gr.drew | apply Gr.iter | (refine Gr.setCell ?_ (by simp) _) | (refine Gr.trans ?_ (by assumption))))) (RdAttrs.gr hl (by repeat (with_reducible first | assumption | exact Gr.refl _ | apply Gr.alloc | apply Gr.drewN | apply Gr.drew | apply Gr.iter | (refine Gr.setCell ?_ (by simp) _) | (refine Gr.trans ?_ (by assumption)))))).mono ?_; rintro e w3 ⟨rfl, hg3⟩))
      all_goals go_ret
      all_goals refine ⟨ret_int ?_, (by repeat (with_reducible first | assumption | exact Gr.refl _ | apply Gr.alloc | apply Gr.drewN | apply Gr.drew | apply Gr.iter | (refine Gr.setCell ?_ (by simp) _) | (refine Gr.trans ?_ (by assumption))))⟩
      all_goals have hb := HB.out
      all_goals have hp := HP.out
      all_goals unfold validS at hb
      ((all_goals go_light); (all_goals (try simp_all [refuse, eqS, eqP, es, ep])); (all_goals (first | omega | rfl | (rw [Bool.eq_iff_iff]; simp; done) | (intros; omega) | (intros; simp_all; done) | (intros; simp_all; omega) | (split <;> simp_all; done) | (split <;> simp_all <;> omega))))
  · have k1 : (k == 1) = false := by simp; omega
    have k2 : (k == 2) = false := by simp; omega
    have k3 : (k != 1) = true := by simp; omega
    have k4 : (k != 2) = true := by simp; omega
    go_enter Tryz.func150, Tryz.ntmps150
    go_wp2
    go_ret
    refine ⟨ret_int ?_, (by repeat (with_reducible first | assumption | exact Gr.refl _ | apply Gr.alloc | apply Gr.drewN | apply Gr.drew | apply Gr.iter | (refine Gr.setCell ?_ (by simp) _) | (refine Gr.trans ?_ (by assumption))))⟩
    simp [refuse]; omega
set_option maxHeartbeats 1000000 in
theorem rempty_any (k : Int) (t : ByteArray) (va vb : Int) (vt : ByteArray) (c : Int) (sl : Value) (l : List Attr) (w : World) (hl : RdAttrs w sl l) :
    Calls Tryz.prog 162 #[.agg #[.int .i64 k, .string t, .int .i64 va, .int .i64 vb, .string vt, .int .i64 c, sl]] w fun e w' => e = .returned (.bool (hasOnly ⟨k, t, ⟨va, vb, vt⟩, c, l⟩)) ∧ Gr w w' := by
  obtain ⟨a, cap, rfl, -, -, hb⟩ := hl.slice
  go_enter Tryz.func162, Tryz.ntmps162
  go_wp2
  all_goals go_ret
  all_goals refine ⟨ret_bool ?_, (by repeat (with_reducible first | assumption | exact Gr.refl _ | apply Gr.alloc | apply Gr.drewN | apply Gr.drew | apply Gr.iter | (refine Gr.setCell ?_ (by simp) _) | (refine Gr.trans ?_ (by assumption))))⟩
  ((all_goals go_light); (all_goals (try simp_all [hasOnly, eqS, eqP, es, ep])); (all_goals (first | omega | rfl | (rw [Bool.eq_iff_iff]; simp; done) | (intros; omega) | (intros; simp_all; done) | (intros; simp_all; omega) | (split <;> simp_all; done) | (split <;> simp_all <;> omega))))
theorem hasOnly_kind {o : Op} (h : hasOnly o = true) : o.kind = 1 ∨ o.kind = 2 ∨ o.kind = 3 ∨ o.kind = 4 := by
  unfold hasOnly at h
  repeat' split at h
  all_goals simp_all
set_option maxHeartbeats 4000000 in
theorem rocheck_any {ea : Nat → Addr} (k : Int) (t : ByteArray) (va vb : Int) (vt : ByteArray) (c : Int) (sl : Value) (l : List Attr) (w : World) (hE : Env ea w) (hl : RdAttrs w sl l) (ht : szS t) (hvt : szS vt) :
    Calls Tryz.prog 132 #[.agg #[.int .i64 k, .string t, .int .i64 va, .int .i64 vb, .string vt, .int .i64 c, sl]] w fun e w' => e = .returned (.int .i64 (checkOp ⟨k, t, ⟨va, vb, vt⟩, c, l⟩)) ∧ Gr w w' := by
  obtain ⟨a, cap, rfl, -, -, hb⟩ := hl.slice
  obtain ⟨hh, hH⟩ : ∃ b, hasOnly ⟨k, t, ⟨va, vb, vt⟩, c, l⟩ = b := ⟨_, rfl⟩
  have HH := Lib.hid hH; clear hH
  go_enter Tryz.func132, Tryz.ntmps132
  go_wp2_with (first
    | (go_at_call 162; refine (rempty_any _ _ _ _ _ _ _ l _ (RdAttrs.gr hl (by repeat (with_reducible first | assumption | exact Gr.refl _ | apply Gr.alloc | apply Gr.drewN | apply Gr.drew | apply Gr.iter | (refine Gr.setCell ?_ (by simp) _) | (refine Gr.trans ?_ (by assumption)))))).mono ?_; rw [HH.out]; rintro e w' ⟨rfl, hg⟩; have hc0 := fun o => hg.cells w.heap.size o (by simp))
    | (go_at_call 150; refine (rrefuse_any _ _ _ _ _ _ _ l _ (hE.gr (by repeat (with_reducible first | assumption | exact Gr.refl _ | apply Gr.alloc | apply Gr.drewN | apply Gr.drew | apply Gr.iter | (refine Gr.setCell ?_ (by simp) _) | (refine Gr.trans ?_ (by assumption))))) (RdAttrs.gr hl (by repeat (with_reducible first | assumption | exact Gr.refl _ | apply Gr.alloc | apply Gr.drewN | apply Gr.drew | apply Gr.iter | (refine Gr.setCell ?_ (by simp) _) | (refine Gr.trans ?_ (by assumption))))) ht hvt).mono ?_; rintro e w2 ⟨rfl, hg2⟩)
    | (go_at_call 163; refine (racheck_any l _ _ _ (hE.gr (by repeat (with_reducible first | assumption | exact Gr.refl _ | apply Gr.alloc | apply Gr.drewN | apply Gr.drew | apply Gr.iter | (refine Gr.setCell ?_ (by simp) _) | (refine Gr.trans ?_ (by assumption))))) (RdAttrs.gr hl (by repeat (with_reducible first | assumption | exact Gr.refl _ | apply Gr.alloc | apply Gr.drewN | apply Gr.drew | apply Gr.iter | (refine Gr.setCell ?_ (by simp) _) | (refine Gr.trans ?_ (by assumption)))))).mono ?_; rintro e w3 ⟨rfl, hg3⟩))
  all_goals go_ret
  all_goals refine ⟨ret_int ?_, (by repeat (with_reducible first | assumption | exact Gr.refl _ | apply Gr.alloc | apply Gr.drewN | apply Gr.drew | apply Gr.iter | (refine Gr.setCell ?_ (by simp) _) | (refine Gr.trans ?_ (by assumption))))⟩
  all_goals have hk4 := fun h => hasOnly_kind (HH.out.trans h)
  all_goals have hh' := HH.out
  ((all_goals go_light); (all_goals (try simp_all [checkOp, maxLength])); (all_goals (first | omega | rfl | (rw [Bool.eq_iff_iff]; simp; done) | (intros; omega) | (intros; simp_all; done) | (intros; simp_all; omega) | (split <;> simp_all; done) | (split <;> simp_all <;> omega))))
end Ve
