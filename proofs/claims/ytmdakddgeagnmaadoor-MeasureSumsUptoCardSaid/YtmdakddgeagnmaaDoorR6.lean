/- Walks of the references of layers 4, 5: Length, Bad, Lengths, apart, Canonical, SameOp, Same. -/
import Derived.Test.YtmdakddgeagnmaaDoorR5
import Derived.Test.YtmdakddgeagnmaaDoorG7
import Derived.Test.YtmdakddgeagnmaaDoorE1
import Derived.Test.YtmdakddgeagnmaaDoorMem3
set_option linter.all false
namespace Ve
open Go Go.RowKit Go.Proofs

/-- What ref05.Length answers. -/
def rlen (o : Op) : Int := if o.kind = 1 then (runes o.text).length else if o.kind = 2 then 1 else o.count
theorem rlen_ok {o : Op} (h : checkOp o = 0) : rlen o = (toPiece o).len := by
  unfold rlen toPiece
  by_cases h1 : o.kind = 1
  · rw [if_pos h1, if_pos h1]
    have hb : brk o.text = o.text.size := by
      unfold checkOp at h
      split at h
      · omega
      · rw [if_pos (.inl h1)] at h
        exact (refuse_text (k := o.kind) (t := o.text) (v := o.val) (c := o.count) (l := o.attrs) h).2.1
    rw [runes_count hb]; rfl
  · rw [if_neg h1, if_neg h1]
    by_cases h2 : o.kind = 2
    · rw [if_pos h2, if_pos h2]; rfl
    · rw [if_neg h2, if_neg h2]; split <;> rfl
set_option maxHeartbeats 1000000 in
theorem rclen_any (k : Int) (t : ByteArray) (va vb : Int) (vt : ByteArray) (c : Int) (sl : Value) (l : List Attr) (w : World) (hl : RdAttrs w sl l) (ht : szS t) (hk : k = 1 ∨ k = 2) :
    Calls Tryd.prog 45 #[.agg #[.int .i64 k, .string t, .int .i64 va, .int .i64 vb, .string vt, .int .i64 c, sl]] w fun e w' => e = .returned (.int .i64 (rlen ⟨k, t, ⟨va, vb, vt⟩, c, l⟩)) ∧ Gr w w' := by
  obtain ⟨a, cap, rfl, -, -, hb⟩ := hl.slice
  have hle := runes_le t
  have ht40 := ht.le40
  rcases hk with rfl | rfl
  · go_enter Tryd.func45, Tryd.ntmps45
    go_wp2_with (go_at_call 56; refine (rlist_any t _ ht).mono ?_; rintro e w' ⟨v', rfl, ho, hg⟩; obtain ⟨oa, om, oc, rfl, -, -, hom⟩ := ho.sl)
    go_ret
    exact ⟨ret_int (by simp [rlen, hom.out]), (by repeat (with_reducible first | assumption | exact Gr.refl _ | apply Gr.alloc | apply Gr.drewN | apply Gr.drew | apply Gr.iter | (refine Gr.setCell ?_ (by simp) _) | (refine Gr.trans ?_ (by assumption))))⟩
  · go_enter Tryd.func45, Tryd.ntmps45
    go_wp2
    go_ret
    exact ⟨ret_int (by simp [rlen]), (by repeat (with_reducible first | assumption | exact Gr.refl _ | apply Gr.alloc | apply Gr.drewN | apply Gr.drew | apply Gr.iter | (refine Gr.setCell ?_ (by simp) _) | (refine Gr.trans ?_ (by assumption))))⟩
set_option maxHeartbeats 1000000 in
theorem rlen_any (k : Int) (t : ByteArray) (va vb : Int) (vt : ByteArray) (c : Int) (sl : Value) (l : List Attr) (w : World) (hl : RdAttrs w sl l) (ht : szS t) :
    Calls Tryd.prog 29 #[.agg #[.int .i64 k, .string t, .int .i64 va, .int .i64 vb, .string vt, .int .i64 c, sl]] w fun e w' => e = .returned (.int .i64 (rlen ⟨k, t, ⟨va, vb, vt⟩, c, l⟩)) ∧ Gr w w' := by
  obtain ⟨a, cap, rfl, -, -, hb⟩ := hl.slice
  by_cases hk : k = 1 ∨ k = 2
  · rcases hk with rfl | rfl
    · go_enter Tryd.func29, Tryd.ntmps29
      go_wp2_with (go_at_call 45; refine (rclen_any _ _ _ _ _ _ _ l _ (RdAttrs.gr hl (by repeat (with_reducible first | assumption | exact Gr.refl _ | apply Gr.alloc | apply Gr.drewN | apply Gr.drew | apply Gr.iter | (refine Gr.setCell ?_ (by simp) _) | (refine Gr.trans ?_ (by assumption))))) ht (.inl rfl)).mono ?_; rintro e w' ⟨rfl, hg⟩)
      go_ret
      exact ⟨rfl, (by repeat (with_reducible first | assumption | exact Gr.refl _ | apply Gr.alloc | apply Gr.drewN | apply Gr.drew | apply Gr.iter | (refine Gr.setCell ?_ (by simp) _) | (refine Gr.trans ?_ (by assumption))))⟩
    · go_enter Tryd.func29, Tryd.ntmps29
      go_wp2_with (go_at_call 45; refine (rclen_any _ _ _ _ _ _ _ l _ (RdAttrs.gr hl (by repeat (with_reducible first | assumption | exact Gr.refl _ | apply Gr.alloc | apply Gr.drewN | apply Gr.drew | apply Gr.iter | (refine Gr.setCell ?_ (by simp) _) | (refine Gr.trans ?_ (by assumption))))) ht (.inr rfl)).mono ?_; rintro e w' ⟨rfl, hg⟩)
      go_ret
      exact ⟨rfl, (by repeat (with_reducible first | assumption | exact Gr.refl _ | apply Gr.alloc | apply Gr.drewN | apply Gr.drew | apply Gr.iter | (refine Gr.setCell ?_ (by simp) _) | (refine Gr.trans ?_ (by assumption))))⟩
  · have k1 : (k == 1) = false := by simp; omega
    have k2 : (k == 2) = false := by simp; omega
    go_enter Tryd.func29, Tryd.ntmps29
    go_wp2
    go_ret
    refine ⟨ret_int ?_, (by repeat (with_reducible first | assumption | exact Gr.refl _ | apply Gr.alloc | apply Gr.drewN | apply Gr.drew | apply Gr.iter | (refine Gr.setCell ?_ (by simp) _) | (refine Gr.trans ?_ (by assumption))))⟩
    simp only [rlen]
    rw [if_neg (by omega), if_neg (by omega)]
set_option maxHeartbeats 1000000 in
theorem rbad_any {ea : Nat → Addr} (l : List Op) (v : Value) (w : World) (hE : Env ea w) (hl : RdOps w v l) :
    Calls Tryd.prog 49 #[v] w fun e w' => e = .returned (.tuple #[.int .i64 (bad l).1, .int .i64 (bad l).2]) ∧ Gr w w' := by
  obtain ⟨a, n, cap, rfl, hcap, hm, hb, hn⟩ := hl.sl
  go_enter Tryd.func49, Tryd.ntmps49
  go_wp2
  go_loopw [4] (fun i wr => ∃ k : Nat, k ≤ n ∧ i = .int .i64 k ∧ Gr w wr ∧ badFrom k (l.drop k) = bad l) (fun i _ => n - (intOf i).toNat)
  case atStart => exact ⟨0, Nat.zero_le _, rfl, Gr.refl _, rfl⟩
  case round =>
    obtain ⟨k, hk, rfl, hg, ht⟩ := hrel
    have Ht := Lib.hid ht; clear ht
    by_cases hlt : k < n
    · obtain ⟨b, off, xk, xt, xa, xb, xv, xc, ats, sl, hx, rfl, hr, c0, c1, c2, c3, c4, c5, c6, s1, s2⟩ := (RdOps.gr hl hg).at_ k hlt
      have Hx := Lib.hid hx; clear hx
      have hlt' : (k : Int) < n := by omega
      obtain ⟨R, hR⟩ : ∃ R, checkOp ⟨xk, xt, ⟨xa, xb, xv⟩, xc, ats⟩ = R := ⟨_, rfl⟩
      have HR := Lib.hid hR; clear hR
      obtain ⟨sa, sc, hsl, -⟩ := RdList.slice hr
      subst hsl
      by_cases h0 : R = 0
      · subst h0
        go_wp2_with (go_at_call 64; refine (rocheck_any _ _ _ _ _ _ _ ats _ (hE.gr (by repeat (with_reducible first | assumption | exact Gr.refl _ | apply Gr.alloc | apply Gr.drewN | apply Gr.drew | apply Gr.iter | (refine Gr.setCell ?_ (by simp) _) | (refine Gr.trans ?_ (by assumption))))) (RdAttrs.gr (w := wr) hr (by repeat (with_reducible first | assumption | exact Gr.refl _ | apply Gr.alloc | apply Gr.drewN | apply Gr.drew | apply Gr.iter | (refine Gr.setCell ?_ (by simp) _) | (refine Gr.trans ?_ (by assumption))))) s1 s2).mono ?_; rw [HR.out]; rintro e w2 ⟨rfl, hg2⟩)
        go_roundw
        case rel => exact ⟨k + 1, by omega, by go_num, (by repeat (with_reducible first | assumption | exact Gr.refl _ | apply Gr.alloc | apply Gr.drewN | apply Gr.drew | apply Gr.iter | (refine Gr.setCell ?_ (by simp) _) | (refine Gr.trans ?_ (by assumption)))), by rw [← Ht.out, drop_cons Hx.out, badFrom_ok HR.out]⟩
        case measure => simp [intOf]; omega
      · have h0' : (R == 0) = false := by simpa using h0
        have h1' : (R != 0) = true := by simpa using h0
        have H0 := Lib.hid h0; clear h0
        go_wp2_with (go_at_call 64; refine (rocheck_any _ _ _ _ _ _ _ ats _ (hE.gr (by repeat (with_reducible first | assumption | exact Gr.refl _ | apply Gr.alloc | apply Gr.drewN | apply Gr.drew | apply Gr.iter | (refine Gr.setCell ?_ (by simp) _) | (refine Gr.trans ?_ (by assumption))))) (RdAttrs.gr (w := wr) hr (by repeat (with_reducible first | assumption | exact Gr.refl _ | apply Gr.alloc | apply Gr.drewN | apply Gr.drew | apply Gr.iter | (refine Gr.setCell ?_ (by simp) _) | (refine Gr.trans ?_ (by assumption))))) s1 s2).mono ?_; rw [HR.out]; rintro e w2 ⟨rfl, hg2⟩)
        go_ret2
        have hb : bad l = (k, R) := by rw [← Ht.out, drop_cons Hx.out, badFrom_bad (by rw [HR.out]; exact H0.out), HR.out]
        exact ⟨ret_ii (by rw [hb]) (by rw [hb]), (by repeat (with_reducible first | assumption | exact Gr.refl _ | apply Gr.alloc | apply Gr.drewN | apply Gr.drew | apply Gr.iter | (refine Gr.setCell ?_ (by simp) _) | (refine Gr.trans ?_ (by assumption))))⟩
    · obtain rfl : k = n := by omega
      have hl0 : l.drop k = [] := List.drop_eq_nil_of_le (by rw [hn.out]; exact Nat.le_refl _)
      have hb : bad l = (0, 0) := by rw [← Ht.out, hl0]; rfl
      have Hb := Lib.hid hb; clear hb hl0
      go_wp2
      go_ret2
      exact ⟨ret_ii (by rw [Hb.out]; rfl) (by rw [Hb.out]), (by repeat (with_reducible first | assumption | exact Gr.refl _ | apply Gr.alloc | apply Gr.drewN | apply Gr.drew | apply Gr.iter | (refine Gr.setCell ?_ (by simp) _) | (refine Gr.trans ?_ (by assumption))))⟩
theorem bad_zero {l : List Op} (h : (bad l).2 = 0) : ∀ o ∈ l, checkOp o = 0 := by
  have key : ∀ (l : List Op) i, (badFrom i l).2 = 0 → ∀ o ∈ l, checkOp o = 0 := by
    intro l
    induction l with
    | nil => intro i _ o ho; cases ho
    | cons x l ih =>
      intro i h o ho
      by_cases c : checkOp x = 0
      · rw [badFrom_ok c] at h
        rcases List.mem_cons.1 ho with e | e
        · rw [e]; exact c
        · exact ih _ h o e
      · rw [badFrom_bad c] at h
        exact absurd h c
  exact key l 0 h
theorem bad_all {l : List Op} (h : ∀ o ∈ l, checkOp o = 0) : bad l = (0, 0) := by
  have key : ∀ (l : List Op) i, (∀ o ∈ l, checkOp o = 0) → badFrom i l = (0, 0) := by
    intro l
    induction l with
    | nil => intro i _; rfl
    | cons x l ih =>
      intro i h
      rw [badFrom_ok (h x (by simp))]
      exact ih _ fun o ho => h o (by simp [ho])
  exact key l 0 h
theorem rlen_bound {o : Op} (h : checkOp o = 0) (hs : szS o.text) : 0 ≤ rlen o ∧ rlen o ≤ 1099511627776 := by
  unfold rlen
  by_cases h1 : o.kind = 1
  · rw [if_pos h1]
    have := runes_le o.text
    have := hs.le40
    omega
  · rw [if_neg h1]
    by_cases h2 : o.kind = 2
    · rw [if_pos h2]; omega
    · rw [if_neg h2]
      unfold checkOp at h
      rw [if_neg (show ¬ (o.kind = 1 ∨ o.kind = 2) by omega)] at h
      split at h
      · omega
      · split at h
        · omega
        · split at h
          · omega
          · unfold maxLength at *; omega
def baseO (o : Op) : Int := if o.kind = 3 ∨ o.kind = 4 then rlen o else 0
def resO (o : Op) : Int := if o.kind = 4 then 0 else rlen o
def lensFrom (b r : Int) : List Op → Int × Int × Int
  | [] => (b, r, 0)
  | o :: l => if 1099511627776 < b + baseO o ∨ 1099511627776 < r + resO o then (0, 0, 11) else lensFrom (b + baseO o) (r + resO o) l
/-- What ref05.Lengths answers. -/
def lensL (l : List Op) : Int × Int × Int := if (bad l).2 ≠ 0 then (0, 0, (bad l).2) else lensFrom 0 0 l
theorem ret_iii {k k' k'' : IntKind} {a b c d e f : Int} (h : a = b) (h' : c = d) (h'' : e = f) : Ending.returned (.tuple #[.int k a, .int k' c, .int k'' e]) = .returned (.tuple #[.int k b, .int k' d, .int k'' f]) := by rw [h, h', h'']
theorem lens_long {b r : Int} {o : Op} {l : List Op} {b' r' : Int} (hb : b + baseO o = b') (hr : r + resO o = r') (h : 1099511627776 < b' ∨ 1099511627776 < r') : lensFrom b r (o :: l) = (0, 0, 11) := by
  simp only [lensFrom]; rw [hb, hr, if_pos h]
theorem lens_step {b r : Int} {o : Op} {l : List Op} {b' r' : Int} (hb : b + baseO o = b') (hr : r + resO o = r') (h : ¬ 1099511627776 < b') (h' : ¬ 1099511627776 < r') : lensFrom b r (o :: l) = lensFrom b' r' l := by
  simp only [lensFrom]; rw [hb, hr, if_neg (by omega)]
set_option maxHeartbeats 4000000 in
theorem rlens_any {ea : Nat → Addr} (l : List Op) (v : Value) (w : World) (hE : Env ea w) (hl : RdOps w v l) :
    Calls Tryd.prog 31 #[v] w fun e w' => e = .returned (.tuple #[.int .i64 (lensL l).1, .int .i64 (lensL l).2.1, .int .i64 (lensL l).2.2]) ∧ Gr w w' := by
  obtain ⟨a, n, cap, rfl, hcap, hm, hb, hn⟩ := hl.sl
  obtain ⟨E, hE'⟩ : ∃ E, (bad l).2 = E := ⟨_, rfl⟩
  have HE := Lib.hid hE'; clear hE'
  by_cases h0 : E = 0
  · subst h0
    have hok := bad_zero HE.out
    have HL : Hid (lensL l = lensFrom 0 0 l) := Lib.hid (by unfold lensL; rw [if_neg (by simp [HE.out])])
    go_enter Tryd.func31, Tryd.ntmps31
    go_wp2_with (go_at_call 49; refine (rbad_any l _ _ (hE.gr (by repeat (with_reducible first | assumption | exact Gr.refl _ | apply Gr.alloc | apply Gr.drewN | apply Gr.drew | apply Gr.iter | (refine Gr.setCell ?_ (by simp) _) | (refine Gr.trans ?_ (by assumption))))) (RdOps.gr (w := w) hl (by repeat (with_reducible first | assumption | exact Gr.refl _ | apply Gr.alloc | apply Gr.drewN | apply Gr.drew | apply Gr.iter | (refine Gr.setCell ?_ (by simp) _) | (refine Gr.trans ?_ (by assumption)))))).mono ?_; rw [HE.out]; rintro e w1 ⟨rfl, hg1⟩)
    go_loopw [7, 8, 9] (fun x y i wr => ∃ (k : Nat) (b r : Int), k ≤ n ∧ i = .int .i64 k ∧ x = .int .i64 b ∧ y = .int .i64 r ∧ 0 ≤ b ∧ b ≤ 1099511627776 ∧ 0 ≤ r ∧ r ≤ 1099511627776 ∧ Gr w wr ∧ lensFrom b r (l.drop k) = lensL l) (fun _ _ i _ => n - (intOf i).toNat)
    case atStart => exact ⟨0, 0, 0, Nat.zero_le _, rfl, rfl, rfl, by omega, by omega, by omega, by omega, (by repeat (with_reducible first | assumption | exact Gr.refl _ | apply Gr.alloc | apply Gr.drewN | apply Gr.drew | apply Gr.iter | (refine Gr.setCell ?_ (by simp) _) | (refine Gr.trans ?_ (by assumption)))), HL.out.symm⟩
    case round =>
      obtain ⟨k, b, r, hk, rfl, rfl, rfl, hb0, hb1, hr0, hr1, hg, ht⟩ := hrel
      have Ht := Lib.hid ht; clear ht
      by_cases hlt : k < n
      · obtain ⟨blk, off, xk, xt, xa, xb, xv, xc, ats, sl, hx, rfl, hr, c0, c1, c2, c3, c4, c5, c6, s1, s2⟩ := (RdOps.gr hl hg).at_ k hlt
        have hck := hok _ (List.mem_of_getElem? hx)
        have hkind : xk = 1 ∨ xk = 2 ∨ xk = 3 ∨ xk = 4 := by
          have := hasOnly_kind (o := ⟨xk, xt, ⟨xa, xb, xv⟩, xc, ats⟩) (by
            cases h : hasOnly ⟨xk, xt, ⟨xa, xb, xv⟩, xc, ats⟩ with
            | true => rfl
            | false => simp [checkOp, h] at hck)
          exact this
        obtain ⟨N0, N1⟩ := rlen_bound hck s1
        have Hx := Lib.hid hx; clear hx hck
        have hlt' : (k : Int) < n := by omega
        obtain ⟨N, hN⟩ : ∃ N, rlen ⟨xk, xt, ⟨xa, xb, xv⟩, xc, ats⟩ = N := ⟨_, rfl⟩
        rw [hN] at N0 N1
        have HN := Lib.hid hN; clear hN
        obtain ⟨sa, sc, hsl, -⟩ := RdList.slice hr
        subst hsl
        rcases hkind with rfl | rfl | rfl | rfl
        · have eb : b + baseO ⟨1, xt, ⟨xa, xb, xv⟩, xc, ats⟩ = b := by (have := HN.out; simp [baseO, this])
          have er : r + resO ⟨1, xt, ⟨xa, xb, xv⟩, xc, ats⟩ = r + N := by (have := HN.out; simp [resO, this])
          have EB := Lib.hid (And.intro eb er); clear eb er
          have h1 : ¬ 1099511627776 < b := by omega
          by_cases h2 : 1099511627776 < r + N
          · have hL : lensL l = (0, 0, 11) := by rw [← Ht.out, drop_cons Hx.out, lens_long EB.out.1 EB.out.2 (.inr h2)]
            have HL2 := Lib.hid hL; clear hL
            go_wp2_with (go_at_call 29; refine (rlen_any _ _ _ _ _ _ _ ats _ (RdAttrs.gr (w := wr) hr (by repeat (with_reducible first | assumption | exact Gr.refl _ | apply Gr.alloc | apply Gr.drewN | apply Gr.drew | apply Gr.iter | (refine Gr.setCell ?_ (by simp) _) | (refine Gr.trans ?_ (by assumption))))) s1).mono ?_; rw [HN.out]; rintro e w2 ⟨rfl, hg2⟩; have d0 := hg2.cell c0; have z0 := cell_lt d0)
            go_ret3
            exact ⟨ret_iii (by rw [HL2.out]) (by rw [HL2.out]) (by rw [HL2.out]), (by repeat (with_reducible first | assumption | exact Gr.refl _ | apply Gr.alloc | apply Gr.drewN | apply Gr.drew | apply Gr.iter | (refine Gr.setCell ?_ (by simp) _) | (refine Gr.trans ?_ (by assumption))))⟩
          · have hL := (congrArg (lensFrom b r) (drop_cons Hx.out)).symm.trans Ht.out
            rw [lens_step EB.out.1 EB.out.2 h1 h2] at hL
            have HL2 := Lib.hid hL; clear hL
            go_wp2_with (go_at_call 29; refine (rlen_any _ _ _ _ _ _ _ ats _ (RdAttrs.gr (w := wr) hr (by repeat (with_reducible first | assumption | exact Gr.refl _ | apply Gr.alloc | apply Gr.drewN | apply Gr.drew | apply Gr.iter | (refine Gr.setCell ?_ (by simp) _) | (refine Gr.trans ?_ (by assumption))))) s1).mono ?_; rw [HN.out]; rintro e w2 ⟨rfl, hg2⟩; have d0 := hg2.cell c0; have z0 := cell_lt d0)
            go_roundw
            case rel => exact ⟨k + 1, b, r + N, by omega, by go_num, rfl, rfl, by omega, by omega, by omega, by omega, (by repeat (with_reducible first | assumption | exact Gr.refl _ | apply Gr.alloc | apply Gr.drewN | apply Gr.drew | apply Gr.iter | (refine Gr.setCell ?_ (by simp) _) | (refine Gr.trans ?_ (by assumption)))), HL2.out⟩
            case measure => simp [intOf]; omega
        · have eb : b + baseO ⟨2, xt, ⟨xa, xb, xv⟩, xc, ats⟩ = b := by (have := HN.out; simp [baseO, this])
          have er : r + resO ⟨2, xt, ⟨xa, xb, xv⟩, xc, ats⟩ = r + N := by (have := HN.out; simp [resO, this])
          have EB := Lib.hid (And.intro eb er); clear eb er
          have h1 : ¬ 1099511627776 < b := by omega
          by_cases h2 : 1099511627776 < r + N
          · have hL : lensL l = (0, 0, 11) := by rw [← Ht.out, drop_cons Hx.out, lens_long EB.out.1 EB.out.2 (.inr h2)]
            have HL2 := Lib.hid hL; clear hL
            go_wp2_with (go_at_call 29; refine (rlen_any _ _ _ _ _ _ _ ats _ (RdAttrs.gr (w := wr) hr (by repeat (with_reducible first | assumption | exact Gr.refl _ | apply Gr.alloc | apply Gr.drewN | apply Gr.drew | apply Gr.iter | (refine Gr.setCell ?_ (by simp) _) | (refine Gr.trans ?_ (by assumption))))) s1).mono ?_; rw [HN.out]; rintro e w2 ⟨rfl, hg2⟩; have d0 := hg2.cell c0; have z0 := cell_lt d0)
            go_ret3
            exact ⟨ret_iii (by rw [HL2.out]) (by rw [HL2.out]) (by rw [HL2.out]), (by repeat (with_reducible first | assumption | exact Gr.refl _ | apply Gr.alloc | apply Gr.drewN | apply Gr.drew | apply Gr.iter | (refine Gr.setCell ?_ (by simp) _) | (refine Gr.trans ?_ (by assumption))))⟩
          · have hL := (congrArg (lensFrom b r) (drop_cons Hx.out)).symm.trans Ht.out
            rw [lens_step EB.out.1 EB.out.2 h1 h2] at hL
            have HL2 := Lib.hid hL; clear hL
            go_wp2_with (go_at_call 29; refine (rlen_any _ _ _ _ _ _ _ ats _ (RdAttrs.gr (w := wr) hr (by repeat (with_reducible first | assumption | exact Gr.refl _ | apply Gr.alloc | apply Gr.drewN | apply Gr.drew | apply Gr.iter | (refine Gr.setCell ?_ (by simp) _) | (refine Gr.trans ?_ (by assumption))))) s1).mono ?_; rw [HN.out]; rintro e w2 ⟨rfl, hg2⟩; have d0 := hg2.cell c0; have z0 := cell_lt d0)
            go_roundw
            case rel => exact ⟨k + 1, b, r + N, by omega, by go_num, rfl, rfl, by omega, by omega, by omega, by omega, (by repeat (with_reducible first | assumption | exact Gr.refl _ | apply Gr.alloc | apply Gr.drewN | apply Gr.drew | apply Gr.iter | (refine Gr.setCell ?_ (by simp) _) | (refine Gr.trans ?_ (by assumption)))), HL2.out⟩
            case measure => simp [intOf]; omega
        · have eb : b + baseO ⟨3, xt, ⟨xa, xb, xv⟩, xc, ats⟩ = b + N := by (have := HN.out; simp [baseO, this])
          have er : r + resO ⟨3, xt, ⟨xa, xb, xv⟩, xc, ats⟩ = r + N := by (have := HN.out; simp [resO, this])
          have EB := Lib.hid (And.intro eb er); clear eb er
          by_cases h1 : 1099511627776 < b + N
          · have hL : lensL l = (0, 0, 11) := by rw [← Ht.out, drop_cons Hx.out, lens_long EB.out.1 EB.out.2 (.inl h1)]
            have HL2 := Lib.hid hL; clear hL
            go_wp2_with (go_at_call 29; refine (rlen_any _ _ _ _ _ _ _ ats _ (RdAttrs.gr (w := wr) hr (by repeat (with_reducible first | assumption | exact Gr.refl _ | apply Gr.alloc | apply Gr.drewN | apply Gr.drew | apply Gr.iter | (refine Gr.setCell ?_ (by simp) _) | (refine Gr.trans ?_ (by assumption))))) s1).mono ?_; rw [HN.out]; rintro e w2 ⟨rfl, hg2⟩; have d0 := hg2.cell c0; have z0 := cell_lt d0)
            go_ret3
            exact ⟨ret_iii (by rw [HL2.out]) (by rw [HL2.out]) (by rw [HL2.out]), (by repeat (with_reducible first | assumption | exact Gr.refl _ | apply Gr.alloc | apply Gr.drewN | apply Gr.drew | apply Gr.iter | (refine Gr.setCell ?_ (by simp) _) | (refine Gr.trans ?_ (by assumption))))⟩
          by_cases h2 : 1099511627776 < r + N
          · have hL : lensL l = (0, 0, 11) := by rw [← Ht.out, drop_cons Hx.out, lens_long EB.out.1 EB.out.2 (.inr h2)]
            have HL2 := Lib.hid hL; clear hL
            go_wp2_with (go_at_call 29; refine (rlen_any _ _ _ _ _ _ _ ats _ (RdAttrs.gr (w := wr) hr (by repeat (with_reducible first | assumption | exact Gr.refl _ | apply Gr.alloc | apply Gr.drewN | apply Gr.drew | apply Gr.iter | (refine Gr.setCell ?_ (by simp) _) | (refine Gr.trans ?_ (by assumption))))) s1).mono ?_; rw [HN.out]; rintro e w2 ⟨rfl, hg2⟩; have d0 := hg2.cell c0; have z0 := cell_lt d0)
            go_ret3
            exact ⟨ret_iii (by rw [HL2.out]) (by rw [HL2.out]) (by rw [HL2.out]), (by repeat (with_reducible first | assumption | exact Gr.refl _ | apply Gr.alloc | apply Gr.drewN | apply Gr.drew | apply Gr.iter | (refine Gr.setCell ?_ (by simp) _) | (refine Gr.trans ?_ (by assumption))))⟩
          · have hL := (congrArg (lensFrom b r) (drop_cons Hx.out)).symm.trans Ht.out
            rw [lens_step EB.out.1 EB.out.2 h1 h2] at hL
            have HL2 := Lib.hid hL; clear hL
            go_wp2_with (go_at_call 29; refine (rlen_any _ _ _ _ _ _ _ ats _ (RdAttrs.gr (w := wr) hr (by repeat (with_reducible first | assumption | exact Gr.refl _ | apply Gr.alloc | apply Gr.drewN | apply Gr.drew | apply Gr.iter | (refine Gr.setCell ?_ (by simp) _) | (refine Gr.trans ?_ (by assumption))))) s1).mono ?_; rw [HN.out]; rintro e w2 ⟨rfl, hg2⟩; have d0 := hg2.cell c0; have z0 := cell_lt d0)
            go_roundw
            case rel => exact ⟨k + 1, b + N, r + N, by omega, by go_num, rfl, rfl, by omega, by omega, by omega, by omega, (by repeat (with_reducible first | assumption | exact Gr.refl _ | apply Gr.alloc | apply Gr.drewN | apply Gr.drew | apply Gr.iter | (refine Gr.setCell ?_ (by simp) _) | (refine Gr.trans ?_ (by assumption)))), HL2.out⟩
            case measure => simp [intOf]; omega
        · have eb : b + baseO ⟨4, xt, ⟨xa, xb, xv⟩, xc, ats⟩ = b + N := by (have := HN.out; simp [baseO, this])
          have er : r + resO ⟨4, xt, ⟨xa, xb, xv⟩, xc, ats⟩ = r := by (have := HN.out; simp [resO, this])
          have EB := Lib.hid (And.intro eb er); clear eb er
          have h2 : ¬ 1099511627776 < r := by omega
          by_cases h1 : 1099511627776 < b + N
          · have hL : lensL l = (0, 0, 11) := by rw [← Ht.out, drop_cons Hx.out, lens_long EB.out.1 EB.out.2 (.inl h1)]
            have HL2 := Lib.hid hL; clear hL
            go_wp2_with (go_at_call 29; refine (rlen_any _ _ _ _ _ _ _ ats _ (RdAttrs.gr (w := wr) hr (by repeat (with_reducible first | assumption | exact Gr.refl _ | apply Gr.alloc | apply Gr.drewN | apply Gr.drew | apply Gr.iter | (refine Gr.setCell ?_ (by simp) _) | (refine Gr.trans ?_ (by assumption))))) s1).mono ?_; rw [HN.out]; rintro e w2 ⟨rfl, hg2⟩; have d0 := hg2.cell c0; have z0 := cell_lt d0)
            go_ret3
            exact ⟨ret_iii (by rw [HL2.out]) (by rw [HL2.out]) (by rw [HL2.out]), (by repeat (with_reducible first | assumption | exact Gr.refl _ | apply Gr.alloc | apply Gr.drewN | apply Gr.drew | apply Gr.iter | (refine Gr.setCell ?_ (by simp) _) | (refine Gr.trans ?_ (by assumption))))⟩
          · have hL := (congrArg (lensFrom b r) (drop_cons Hx.out)).symm.trans Ht.out
            rw [lens_step EB.out.1 EB.out.2 h1 h2] at hL
            have HL2 := Lib.hid hL; clear hL
            go_wp2_with (go_at_call 29; refine (rlen_any _ _ _ _ _ _ _ ats _ (RdAttrs.gr (w := wr) hr (by repeat (with_reducible first | assumption | exact Gr.refl _ | apply Gr.alloc | apply Gr.drewN | apply Gr.drew | apply Gr.iter | (refine Gr.setCell ?_ (by simp) _) | (refine Gr.trans ?_ (by assumption))))) s1).mono ?_; rw [HN.out]; rintro e w2 ⟨rfl, hg2⟩; have d0 := hg2.cell c0; have z0 := cell_lt d0)
            go_roundw
            case rel => exact ⟨k + 1, b + N, r, by omega, by go_num, rfl, rfl, by omega, by omega, by omega, by omega, (by repeat (with_reducible first | assumption | exact Gr.refl _ | apply Gr.alloc | apply Gr.drewN | apply Gr.drew | apply Gr.iter | (refine Gr.setCell ?_ (by simp) _) | (refine Gr.trans ?_ (by assumption)))), HL2.out⟩
            case measure => simp [intOf]; omega
      · obtain rfl : k = n := by omega
        have hl0 : l.drop k = [] := List.drop_eq_nil_of_le (by rw [hn.out]; exact Nat.le_refl _)
        have hb : lensL l = (b, r, 0) := by rw [← Ht.out, hl0]; rfl
        have Hb := Lib.hid hb; clear hb hl0
        go_wp2
        go_ret3
        exact ⟨ret_iii (by rw [Hb.out]) (by rw [Hb.out]) (by rw [Hb.out]), (by repeat (with_reducible first | assumption | exact Gr.refl _ | apply Gr.alloc | apply Gr.drewN | apply Gr.drew | apply Gr.iter | (refine Gr.setCell ?_ (by simp) _) | (refine Gr.trans ?_ (by assumption))))⟩
  · have h0' : (E == 0) = false := by simpa using h0
    have h1' : (E != 0) = true := by simpa using h0
    have HL : Hid (lensL l = (0, 0, E)) := Lib.hid (by unfold lensL; rw [if_pos (by rw [HE.out]; exact h0), HE.out])
    clear h0
    go_enter Tryd.func31, Tryd.ntmps31
    go_wp2_with (go_at_call 49; refine (rbad_any l _ _ (hE.gr (by repeat (with_reducible first | assumption | exact Gr.refl _ | apply Gr.alloc | apply Gr.drewN | apply Gr.drew | apply Gr.iter | (refine Gr.setCell ?_ (by simp) _) | (refine Gr.trans ?_ (by assumption))))) (RdOps.gr (w := w) hl (by repeat (with_reducible first | assumption | exact Gr.refl _ | apply Gr.alloc | apply Gr.drewN | apply Gr.drew | apply Gr.iter | (refine Gr.setCell ?_ (by simp) _) | (refine Gr.trans ?_ (by assumption)))))).mono ?_; rw [HE.out]; rintro e w1 ⟨rfl, hg1⟩)
    go_ret3
    exact ⟨ret_iii (by rw [HL.out]) (by rw [HL.out]) (by rw [HL.out]), (by repeat (with_reducible first | assumption | exact Gr.refl _ | apply Gr.alloc | apply Gr.drewN | apply Gr.drew | apply Gr.iter | (refine Gr.setCell ?_ (by simp) _) | (refine Gr.trans ?_ (by assumption))))⟩
end Ve
