/- Walks of the reference of layer 5: apart, Canonical, SameOp, Same. -/
import Derived.Test.YtmdakddgeagnmaaDoorR6
set_option linter.all false
namespace Ve
open Go Go.RowKit Go.Proofs

def apartO (a b : Op) : Bool := if a.kind = 4 then b.kind == 3 else if a.kind ≠ b.kind ∨ a.kind = 2 then true else !decide (a.attrs = b.attrs)
set_option maxHeartbeats 2000000 in
theorem rapart_any (k : Int) (t : ByteArray) (va vb : Int) (vt : ByteArray) (c : Int) (sl : Value) (l : List Attr) (k' : Int) (t' : ByteArray) (va' vb' : Int) (vt' : ByteArray) (c' : Int) (sl' : Value) (l' : List Attr) (w : World) (hl : RdAttrs w sl l) (hl' : RdAttrs w sl' l') :
    Calls Tryd.prog 32 #[.agg #[.int .i64 k, .string t, .int .i64 va, .int .i64 vb, .string vt, .int .i64 c, sl], .agg #[.int .i64 k', .string t', .int .i64 va', .int .i64 vb', .string vt', .int .i64 c', sl']] w fun e w' => e = .returned (.bool (apartO ⟨k, t, ⟨va, vb, vt⟩, c, l⟩ ⟨k', t', ⟨va', vb', vt'⟩, c', l'⟩)) ∧ Gr w w' := by
  obtain ⟨a, cap, rfl, -⟩ := hl.slice
  obtain ⟨a', cap', rfl, -⟩ := hl'.slice
  obtain ⟨D, hD⟩ : ∃ b, decide (l = l') = b := ⟨_, rfl⟩
  have HD := Lib.hid hD; clear hD
  obtain ⟨A, hA⟩ : ∃ b, apartO ⟨k, t, ⟨va, vb, vt⟩, c, l⟩ ⟨k', t', ⟨va', vb', vt'⟩, c', l'⟩ = b := ⟨_, rfl⟩
  have hA' := hA
  rw [hA']
  clear hA'
  simp only [apartO] at hA
  by_cases h4 : k = 4
  · subst h4
    rw [if_pos rfl] at hA
    subst hA
    go_enter Tryd.func32, Tryd.ntmps32
    go_wp2
    go_ret
    exact ⟨rfl, (by repeat (with_reducible first | assumption | exact Gr.refl _ | apply Gr.alloc | apply Gr.drewN | apply Gr.drew | apply Gr.iter | (refine Gr.setCell ?_ (by simp) _) | (refine Gr.trans ?_ (by assumption))))⟩
  · rw [if_neg h4] at hA
    have h4' : (k == 4) = false := by simpa using h4
    by_cases hkk : k = k'
    · subst hkk
      by_cases h2 : k = 2
      · subst h2
        rw [if_pos (.inr rfl)] at hA
        subst hA
        go_enter Tryd.func32, Tryd.ntmps32
        go_wp2
        go_ret
        exact ⟨rfl, (by repeat (with_reducible first | assumption | exact Gr.refl _ | apply Gr.alloc | apply Gr.drewN | apply Gr.drew | apply Gr.iter | (refine Gr.setCell ?_ (by simp) _) | (refine Gr.trans ?_ (by assumption))))⟩
      · have h2' : (k == 2) = false := by simpa using h2
        rw [if_neg (by simp; exact h2)] at hA
        have HA := Lib.hid hA; clear hA h2 h4
        go_enter Tryd.func32, Tryd.ntmps32
        go_wp2_with (go_at_call 50; refine (sameRef_any l l' _ _ _ (RdAttrs.gr hl (by repeat (with_reducible first | assumption | exact Gr.refl _ | apply Gr.alloc | apply Gr.drewN | apply Gr.drew | apply Gr.iter | (refine Gr.setCell ?_ (by simp) _) | (refine Gr.trans ?_ (by assumption))))) (RdAttrs.gr hl' (by repeat (with_reducible first | assumption | exact Gr.refl _ | apply Gr.alloc | apply Gr.drewN | apply Gr.drew | apply Gr.iter | (refine Gr.setCell ?_ (by simp) _) | (refine Gr.trans ?_ (by assumption)))))).mono ?_; rw [HD.out]; rintro e w1 ⟨rfl, hg1⟩)
        go_ret
        exact ⟨ret_bool (by rw [← HA.out, HD.out]), (by repeat (with_reducible first | assumption | exact Gr.refl _ | apply Gr.alloc | apply Gr.drewN | apply Gr.drew | apply Gr.iter | (refine Gr.setCell ?_ (by simp) _) | (refine Gr.trans ?_ (by assumption))))⟩
    · have hk1 : (k == k') = false := by simpa using hkk
      have hk2 : (k != k') = true := by simpa using hkk
      rw [if_pos (.inl hkk)] at hA
      subst hA
      clear h4 hkk
      go_enter Tryd.func32, Tryd.ntmps32
      go_wp2
      go_ret
      exact ⟨rfl, (by repeat (with_reducible first | assumption | exact Gr.refl _ | apply Gr.alloc | apply Gr.drewN | apply Gr.drew | apply Gr.iter | (refine Gr.setCell ?_ (by simp) _) | (refine Gr.trans ?_ (by assumption))))⟩
set_option maxHeartbeats 2000000 in
theorem rsameop_any (k : Int) (t : ByteArray) (va vb : Int) (vt : ByteArray) (c : Int) (sl : Value) (l : List Attr) (k' : Int) (t' : ByteArray) (va' vb' : Int) (vt' : ByteArray) (c' : Int) (sl' : Value) (l' : List Attr) (w : World) (hl : RdAttrs w sl l) (hl' : RdAttrs w sl' l') :
    Calls Tryd.prog 38 #[.agg #[.int .i64 k, .string t, .int .i64 va, .int .i64 vb, .string vt, .int .i64 c, sl], .agg #[.int .i64 k', .string t', .int .i64 va', .int .i64 vb', .string vt', .int .i64 c', sl']] w fun e w' => e = .returned (.bool (decide ((⟨k, t, ⟨va, vb, vt⟩, c, l⟩ : Op) = ⟨k', t', ⟨va', vb', vt'⟩, c', l'⟩))) ∧ Gr w w' := by
  obtain ⟨a, cap, rfl, -⟩ := hl.slice
  obtain ⟨a', cap', rfl, -⟩ := hl'.slice
  obtain ⟨D, hD⟩ : ∃ b, decide (l = l') = b := ⟨_, rfl⟩
  have HD := Lib.hid hD; clear hD
  go_enter Tryd.func38, Tryd.ntmps38
  go_wp2_with (go_at_call 50; refine (sameRef_any l l' _ _ _ (RdAttrs.gr hl (by repeat (with_reducible first | assumption | exact Gr.refl _ | apply Gr.alloc | apply Gr.drewN | apply Gr.drew | apply Gr.iter | (refine Gr.setCell ?_ (by simp) _) | (refine Gr.trans ?_ (by assumption))))) (RdAttrs.gr hl' (by repeat (with_reducible first | assumption | exact Gr.refl _ | apply Gr.alloc | apply Gr.drewN | apply Gr.drew | apply Gr.iter | (refine Gr.setCell ?_ (by simp) _) | (refine Gr.trans ?_ (by assumption)))))).mono ?_; rw [HD.out]; rintro e w1 ⟨rfl, hg1⟩)
  all_goals go_ret
  all_goals refine ⟨ret_bool ?_, (by repeat (with_reducible first | assumption | exact Gr.refl _ | apply Gr.alloc | apply Gr.drewN | apply Gr.drew | apply Gr.iter | (refine Gr.setCell ?_ (by simp) _) | (refine Gr.trans ?_ (by assumption))))⟩
  all_goals have hd := HD.out
  ((all_goals go_light); (all_goals (try simp_all [eqS, eqP])); (all_goals (first | omega | rfl | (rw [Bool.eq_iff_iff]; simp; done) | (intros; omega) | (intros; simp_all; done) | (intros; simp_all; omega) | (split <;> simp_all; done) | (split <;> simp_all <;> omega))))
def apartFrom : Op → List Op → Bool
  | _, [] => true
  | a, b :: r => apartO a b && apartFrom b r
def apartAll : List Op → Bool
  | [] => true
  | a :: r => apartFrom a r
def lastOk (l : List Op) : Bool := match l.getLast? with
  | none => true
  | some o => o.kind != 3 || o.attrs.length != 0
/-- Is a list canonical? -/
def canonL (l : List Op) : Bool := (lensL l).2.2 == 0 && (apartAll l && lastOk l)
theorem apart_start (l : List Op) : ∀ x, l[0]? = some x → apartAll l = apartFrom x (l.drop 1) := by
  intro x hx
  cases l with
  | nil => simp at hx
  | cons y l => simp at hx; subst hx; rfl
theorem lastOk_at {l : List Op} {n : Nat} {o : Op} (hn : l.length = n + 1) (ho : l[n]? = some o) : lastOk l = (o.kind != 3 || o.attrs.length != 0) := by
  unfold lastOk
  rw [List.getLast?_eq_getElem?, hn]
  simp only [Nat.add_sub_cancel, ho]
set_option maxHeartbeats 4000000 in
theorem rcanon_any {ea : Nat → Addr} (l : List Op) (v : Value) (w : World) (hE : Env ea w) (hl : RdOps w v l) :
    Calls Tryd.prog 10 #[v] w fun e w' => e = .returned (.bool (canonL l)) ∧ Gr w w' := by
  obtain ⟨a, n, cap, rfl, hcap, hm, hb, hn⟩ := hl.sl
  obtain ⟨E, hE'⟩ : ∃ E, (lensL l).2.2 = E := ⟨_, rfl⟩
  have HE := Lib.hid hE'; clear hE'
  by_cases h0 : E = 0
  · subst h0
    go_enter Tryd.func10, Tryd.ntmps10
    go_wp2_with (go_at_call 31; refine (rlens_any l _ _ (hE.gr (by repeat (with_reducible first | assumption | exact Gr.refl _ | apply Gr.alloc | apply Gr.drewN | apply Gr.drew | apply Gr.iter | (refine Gr.setCell ?_ (by simp) _) | (refine Gr.trans ?_ (by assumption))))) (RdOps.gr (w := w) hl (by repeat (with_reducible first | assumption | exact Gr.refl _ | apply Gr.alloc | apply Gr.drewN | apply Gr.drew | apply Gr.iter | (refine Gr.setCell ?_ (by simp) _) | (refine Gr.trans ?_ (by assumption)))))).mono ?_; rw [HE.out]; rintro e w1 ⟨rfl, hg1⟩)
    go_loopw [6] (fun i wr => ∃ k : Nat, (k = 0 ∨ k < n) ∧ i = .int .i64 ((k : Int) + 1) ∧ Gr w wr ∧ ∀ x, l[k]? = some x → apartAll l = apartFrom x (l.drop (k + 1))) (fun i _ => n - (intOf i).toNat)
    case atStart => exact ⟨0, .inl rfl, rfl, (by repeat (with_reducible first | assumption | exact Gr.refl _ | apply Gr.alloc | apply Gr.drewN | apply Gr.drew | apply Gr.iter | (refine Gr.setCell ?_ (by simp) _) | (refine Gr.trans ?_ (by assumption)))), apart_start l⟩
    case round =>
      obtain ⟨k, hk, rfl, hg, ht⟩ := hrel
      have Ht := Lib.hid ht; clear ht
      by_cases hlt : k + 1 < n
      · obtain ⟨blk, off, xk, xt, xa, xb, xv, xc, ats, sl, hx, rfl, hr, c0, c1, c2, c3, c4, c5, c6, s1, s2⟩ := (RdOps.gr hl hg).at_ k (by omega)
        obtain ⟨blk', off', yk, yt, ya, yb, yv, yc, bts, tl, hy, e', hr', d0, d1, d2, d3, d4, d5, d6, s1', s2'⟩ := (RdOps.gr hl hg).at_ (k + 1) hlt
        injection e' with e'; injection e' with eb eo; subst eb eo
        have Hx := Lib.hid hx; clear hx
        have Hy := Lib.hid hy; clear hy
        have hlt' : (k : Int) + 1 < n := by omega
        have hlt2 : (k : Int) < n := by omega
        obtain ⟨sa, sc, hsl, -⟩ := RdList.slice hr
        subst hsl
        obtain ⟨sa', sc', hsl, -⟩ := RdList.slice hr'
        subst hsl
        have hstep : apartAll l = (apartO ⟨xk, xt, ⟨xa, xb, xv⟩, xc, ats⟩ ⟨yk, yt, ⟨ya, yb, yv⟩, yc, bts⟩ && apartFrom ⟨yk, yt, ⟨ya, yb, yv⟩, yc, bts⟩ (l.drop (k + 2))) := by
          rw [Ht.out _ Hx.out, drop_cons Hy.out]; rfl
        obtain ⟨A, hA⟩ : ∃ b, apartO ⟨xk, xt, ⟨xa, xb, xv⟩, xc, ats⟩ ⟨yk, yt, ⟨ya, yb, yv⟩, yc, bts⟩ = b := ⟨_, rfl⟩
        rw [hA] at hstep
        have HA := Lib.hid hA; clear hA
        have HS := Lib.hid hstep; clear hstep
        have x1 : IntKind.i64.wrap ((k : Int) + 1) = (k : Int) + 1 := IntWalk.i64_in _ (by omega)
        have x2 : ((k : Int) + 1).toNat = k + 1 := by omega
        have x3 : (0 : Int) ≤ (k : Int) + 1 := by omega
        have x5 : IntKind.i64.wrap (k : Int) = (k : Int) := IntWalk.i64_in _ (by omega)
        have x4 : IntKind.i64.wrap ((k : Int) + 1 - 1) = (k : Int) := by rw [Int.add_sub_cancel]; exact IntWalk.i64_in _ (by omega)
        cases A
        all_goals
          go_wp2
          (refine wp_region_gr (by kernel_rfl) (by kernel_rfl) ?_; (repeat (refine wpQuiet_step (fun K hK => ?_); go_simp; first | (refine hK _ ?_; clear hK K) | (refine ⟨_, fun _ _ => rfl, hK _ ?_⟩; clear hK K) | (apply Exists.intro; refine ⟨fun wq hq => ?_, hK _ ?_⟩; (first | exact ((rapart_any _ _ _ _ _ _ _ ats _ _ _ _ _ _ _ bts wq (RdAttrs.gr (w := wr) hr hq) (RdAttrs.gr (w := wr) hr' hq)).mono fun e w' h => by rw [HA.out] at h; exact ⟨h.1, hq.trans h.2⟩) | (have q0 := hq.cell c0; have q1 := hq.cell c1; have q2 := hq.cell c2; have q3 := hq.cell c3; have q4 := hq.cell c4; have q5 := hq.cell c5; have q6 := hq.cell c6; have r0 := hq.cell d0; have r1 := hq.cell d1; have r2 := hq.cell d2; have r3 := hq.cell d3; have r4 := hq.cell d4; have r5 := hq.cell d5; have r6 := hq.cell d6; go_simp; rfl)); clear hK K))); refine wpQuiet_nil ?_)
          intro w3 hg3
          go_wp2
        · go_ret
          have hs := HS.out
          exact ⟨ret_bool (by simp [canonL, hs]), (by repeat (with_reducible first | assumption | exact Gr.refl _ | apply Gr.alloc | apply Gr.drewN | apply Gr.drew | apply Gr.iter | (refine Gr.setCell ?_ (by simp) _) | (refine Gr.trans ?_ (by assumption))))⟩
        · go_roundw
          case rel =>
            refine ⟨k + 1, .inr hlt, by go_num, (by repeat (with_reducible first | assumption | exact Gr.refl _ | apply Gr.alloc | apply Gr.drewN | apply Gr.drew | apply Gr.iter | (refine Gr.setCell ?_ (by simp) _) | (refine Gr.trans ?_ (by assumption)))), ?_⟩
            intro x hx
            have := Option.some.inj (Hy.out.symm.trans hx)
            subst this
            exact HS.out
          case measure => simp [intOf]; omega
      · have hge : ¬ ((k : Int) + 1 < n) := by omega
        have hap : apartAll l = true := by
          rcases Nat.eq_zero_or_pos n with hz | hz
          · have : l = [] := List.eq_nil_of_length_eq_zero (by rw [hn.out]; exact hz)
            rw [this]; rfl
          · obtain ⟨x, hx⟩ : ∃ x, l[k]? = some x := ⟨l[k]'(by have := hn.out; omega), List.getElem?_eq_getElem _⟩
            rw [Ht.out x hx, List.drop_eq_nil_of_le (by have := hn.out; omega)]; rfl
        have HAp := Lib.hid hap; clear hap
        rcases Nat.eq_zero_or_pos n with hz | hz
        · subst hz
          have hl0 : l = [] := List.eq_nil_of_length_eq_zero hn.out
          have HL0 := Lib.hid hl0; clear hl0
          go_wp2
          go_ret
          refine ⟨ret_bool ?_, (by repeat (with_reducible first | assumption | exact Gr.refl _ | apply Gr.alloc | apply Gr.drewN | apply Gr.drew | apply Gr.iter | (refine Gr.setCell ?_ (by simp) _) | (refine Gr.trans ?_ (by assumption))))⟩
          simp [canonL, HE.out, HAp.out]
          rw [HL0.out]; rfl
        · obtain ⟨m, rfl⟩ : ∃ m, n = m + 1 := ⟨n - 1, by omega⟩
          obtain ⟨blk, off, xk, xt, xa, xb, xv, xc, ats, sl, hx, rfl, hr, c0, c1, c2, c3, c4, c5, c6, s1, s2⟩ := (RdOps.gr hl hg).at_ m (by omega)
          obtain ⟨sa, sc, hsl, -, -, hlen⟩ := RdList.slice hr
          subst hsl
          have hlo := lastOk_at hn.out hx
          have HLO := Lib.hid hlo; clear hlo
          have Hx := Lib.hid hx; clear hx
          have y1 : ((m : Int) + 1 == 0) = false := by simp; omega
          go_wp2
          all_goals go_ret
          all_goals refine ⟨ret_bool ?_, (by repeat (with_reducible first | assumption | exact Gr.refl _ | apply Gr.alloc | apply Gr.drewN | apply Gr.drew | apply Gr.iter | (refine Gr.setCell ?_ (by simp) _) | (refine Gr.trans ?_ (by assumption))))⟩
          all_goals simp only [canonL, HE.out, HAp.out, HLO.out]
          all_goals go_light
          all_goals simp_all
          all_goals (first | omega | (rw [Bool.eq_iff_iff]; simp; omega) | (cases ats <;> simp; done) | skip)
  · have h0' : (E == 0) = false := by simpa using h0
    have h1' : (E != 0) = true := by simpa using h0
    clear h0
    go_enter Tryd.func10, Tryd.ntmps10
    go_wp2_with (go_at_call 31; refine (rlens_any l _ _ (hE.gr (by repeat (with_reducible first | assumption | exact Gr.refl _ | apply Gr.alloc | apply Gr.drewN | apply Gr.drew | apply Gr.iter | (refine Gr.setCell ?_ (by simp) _) | (refine Gr.trans ?_ (by assumption))))) (RdOps.gr (w := w) hl (by repeat (with_reducible first | assumption | exact Gr.refl _ | apply Gr.alloc | apply Gr.drewN | apply Gr.drew | apply Gr.iter | (refine Gr.setCell ?_ (by simp) _) | (refine Gr.trans ?_ (by assumption)))))).mono ?_; rw [HE.out]; rintro e w1 ⟨rfl, hg1⟩)
    go_ret
    exact ⟨ret_bool (by unfold canonL; rw [HE.out, h0']; rfl), (by repeat (with_reducible first | assumption | exact Gr.refl _ | apply Gr.alloc | apply Gr.drewN | apply Gr.drew | apply Gr.iter | (refine Gr.setCell ?_ (by simp) _) | (refine Gr.trans ?_ (by assumption))))⟩
set_option maxHeartbeats 2000000 in
theorem rsame_any (la lb : List Op) (va vb : Value) (w : World) (ha : RdOps w va la) (hb : RdOps w vb lb) :
    Calls Tryd.prog 18 #[va, vb] w fun e w' => e = .returned (.bool (decide (la = lb))) ∧ Gr w w' := by
  obtain ⟨aa, n, ca, rfl, hla, hma, hba, hna⟩ := ha.sl
  obtain ⟨ab, m, cb, rfl, hlb, hmb, hbb, hnb⟩ := hb.sl
  by_cases hlen : n = m
  · subst hlen
    go_enter Tryd.func18, Tryd.ntmps18
    go_wp2
    go_loopw [5] (fun i wr => ∃ k : Nat, k ≤ n ∧ i = .int .i64 k ∧ Gr w wr ∧ la.take k = lb.take k) (fun i _ => n - (intOf i).toNat)
    case atStart => exact ⟨0, Nat.zero_le _, rfl, Gr.refl _, rfl⟩
    case round =>
      obtain ⟨k, hk, rfl, hg, ht⟩ := hrel
      have Ht := Lib.hid ht; clear ht
      by_cases hlt : k < n
      · obtain ⟨blk, off, xk, xt, xa, xb, xv, xc, ats, sl, hx, rfl, hr, c0, c1, c2, c3, c4, c5, c6, s1, s2⟩ := (RdOps.gr ha hg).at_ k hlt
        obtain ⟨blk', off', yk, yt, ya, yb, yv, yc, bts, tl, hy, rfl, hr', d0, d1, d2, d3, d4, d5, d6, s1', s2'⟩ := (RdOps.gr hb hg).at_ k hlt
        have H := Lib.hid (And.intro hx hy); clear hx hy
        have hlt' : (k : Int) < n := by omega
        obtain ⟨sa, sc, hsl, -⟩ := RdList.slice hr
        subst hsl
        obtain ⟨sa', sc', hsl, -⟩ := RdList.slice hr'
        subst hsl
        obtain ⟨A, hA⟩ : ∃ b, decide ((⟨xk, xt, ⟨xa, xb, xv⟩, xc, ats⟩ : Op) = ⟨yk, yt, ⟨ya, yb, yv⟩, yc, bts⟩) = b := ⟨_, rfl⟩
        have HA := Lib.hid hA; clear hA
        cases A
        all_goals
          go_wp2
          (refine wp_region_gr (by kernel_rfl) (by kernel_rfl) ?_; (repeat (refine wpQuiet_step (fun K hK => ?_); go_simp; first | (refine hK _ ?_; clear hK K) | (refine ⟨_, fun _ _ => rfl, hK _ ?_⟩; clear hK K) | (apply Exists.intro; refine ⟨fun wq hq => ?_, hK _ ?_⟩; (first | exact ((rsameop_any _ _ _ _ _ _ _ ats _ _ _ _ _ _ _ bts wq (RdAttrs.gr (w := wr) hr hq) (RdAttrs.gr (w := wr) hr' hq)).mono fun e w' h => by rw [HA.out] at h; exact ⟨h.1, hq.trans h.2⟩) | (have q0 := hq.cell c0; have q1 := hq.cell c1; have q2 := hq.cell c2; have q3 := hq.cell c3; have q4 := hq.cell c4; have q5 := hq.cell c5; have q6 := hq.cell c6; have r0 := hq.cell d0; have r1 := hq.cell d1; have r2 := hq.cell d2; have r3 := hq.cell d3; have r4 := hq.cell d4; have r5 := hq.cell d5; have r6 := hq.cell d6; go_simp; rfl)); clear hK K))); refine wpQuiet_nil ?_)
          intro w3 hg3
          go_wp2
        · go_ret
          refine ⟨ret_bool ?_, (by repeat (with_reducible first | assumption | exact Gr.refl _ | apply Gr.alloc | apply Gr.drewN | apply Gr.drew | apply Gr.iter | (refine Gr.setCell ?_ (by simp) _) | (refine Gr.trans ?_ (by assumption))))⟩
          obtain ⟨hx, hy⟩ := H.out
          have h := HA.out
          simp only [decide_eq_false_iff_not] at h
          symm
          simp only [decide_eq_false_iff_not]
          intro e
          subst e
          exact h (Option.some.inj (hx.symm.trans hy))
        · go_roundw
          case rel =>
            obtain ⟨hx, hy⟩ := H.out
            refine ⟨k + 1, by omega, by go_num, (by repeat (with_reducible first | assumption | exact Gr.refl _ | apply Gr.alloc | apply Gr.drewN | apply Gr.drew | apply Gr.iter | (refine Gr.setCell ?_ (by simp) _) | (refine Gr.trans ?_ (by assumption)))), ?_⟩
            rw [List.take_add_one, List.take_add_one, Ht.out, hx, hy, of_decide_eq_true HA.out]
          case measure => simp [intOf]; omega
      · obtain rfl : k = n := by omega
        go_wp2
        go_ret
        refine ⟨ret_bool ?_, (by repeat (with_reducible first | assumption | exact Gr.refl _ | apply Gr.alloc | apply Gr.drewN | apply Gr.drew | apply Gr.iter | (refine Gr.setCell ?_ (by simp) _) | (refine Gr.trans ?_ (by assumption))))⟩
        have ht := Ht.out
        have e1 := hna.out
        have e2 := hnb.out
        rw [List.take_of_length_le (by omega), List.take_of_length_le (by omega)] at ht
        simp [ht]
  · have hlen' : ((n : Int) != m) = true := by simp; omega
    have hne : la ≠ lb := fun e => hlen (by rw [← hna.out, ← hnb.out, e])
    have HN := Lib.hid hne; clear hne
    go_enter Tryd.func18, Tryd.ntmps18
    go_wp2
    go_ret
    refine ⟨ret_bool ?_, (by repeat (with_reducible first | assumption | exact Gr.refl _ | apply Gr.alloc | apply Gr.drewN | apply Gr.drew | apply Gr.iter | (refine Gr.setCell ?_ (by simp) _) | (refine Gr.trans ?_ (by assumption))))⟩
    simp [HN.out]
end Ve
