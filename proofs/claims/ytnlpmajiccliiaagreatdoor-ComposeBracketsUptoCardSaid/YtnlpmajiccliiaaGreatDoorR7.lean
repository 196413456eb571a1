/- Walks of the references of layers 4, 5: Length, Bad, Lengths, apart, Canonical, SameOp, Same. -/
import Derived.Test.YtnlpmajiccliiaaGreatDoorR5
import Derived.Test.YtnlpmajiccliiaaGreatDoorG7
import Derived.Test.YtnlpmajiccliiaaGreatDoorP3
import Derived.Test.YtnlpmajiccliiaaGreatDoorMem3
set_option linter.all false
namespace Ve
open Go Go.RowKit Go.Proofs

/-- What ref05.Length answers. -/
def rlen (o : Op) : Int := if o.kind = 1 then (runes o.text).length else if o.kind = 2 then 1 else o.count
theorem rlen_ok {o : Op} (h : checkOp o = 0) : rlen o = (toPiece o).len := by
  unfold rlen toPiece
  by_cases h1 : o.kind = 1
  · rw [if_pos h1, if_pos h1]
    have hb : brk o.text = o.text.size := by
      unfold checkOp at h
      split at h
      · omega
      · rw [if_pos (.inl h1)] at h
        exact (refuse_text (k := o.kind) (t := o.text) (v := o.val) (c := o.count) (l := o.attrs) h).2.1
    rw [runes_count hb]; rfl
  · rw [if_neg h1, if_neg h1]
    by_cases h2 : o.kind = 2
    · rw [if_pos h2, if_pos h2]; rfl
    · rw [if_neg h2, if_neg h2]; split <;> rfl
set_option maxHeartbeats 1000000 in
theorem rclen_any (k : Int) (t : ByteArray) (va vb : Int) (vt : ByteArray) (c : Int) (sl : Value) (l : List Attr) (w : World) (hl : RdAttrs w sl l) (ht : szS t) (hk : k = 1 ∨ k = 2) :
    Calls Tryz.prog 94 #[.agg #[.int .i64 k, .string t, .int .i64 va, .int .i64 vb, .string vt, .int .i64 c, sl]] w fun e w' => e = .returned (.int .i64 (rlen ⟨k, t, ⟨va, vb, vt⟩, c, l⟩)) ∧ Gr w w' := by
  obtain ⟨a, cap, rfl, -, -, hb⟩ := hl.slice
  have hle := runes_le t
  have ht40 := ht.le40
  rcases hk with rfl | rfl
  · go_enter Tryz.func94, Tryz.ntmps94
    go_wp2_with (go_at_call 96; refine (rlist_any t _ ht).mono ?_; rintro e w' ⟨v', rfl, ho, hg⟩; obtain ⟨oa, om, oc, rfl, -, -, hom⟩ := ho.sl)
    go_ret
    exact ⟨ret_int (by simp [rlen, hom.out]), (by repeat (with_reducible first | assumption | exact Gr.refl _ | apply Gr.alloc | apply Gr.drewN | apply Gr.drew | apply Gr.iter | (refine Gr.setCell ?_ (by simp) _) | (refine Gr.trans ?_ (by assumption))))⟩
  · go_enter Tryz.func94, Tryz.ntmps94
    go_wp2
    go_ret
    exact ⟨ret_int (by simp [rlen]), (by repeat (with_reducible first | assumption | exact Gr.refl _ | apply Gr.alloc | apply Gr.drewN | apply Gr.drew | apply Gr.iter | (refine Gr.setCell ?_ (by simp) _) | (refine Gr.trans ?_ (by assumption))))⟩
set_option maxHeartbeats 1000000 in
theorem rlen_any (k : Int) (t : ByteArray) (va vb : Int) (vt : ByteArray) (c : Int) (sl : Value) (l : List Attr) (w : World) (hl : RdAttrs w sl l) (ht : szS t) :
    Calls Tryz.prog 69 #[.agg #[.int .i64 k, .string t, .int .i64 va, .int .i64 vb, .string vt, .int .i64 c, sl]] w fun e w' => e = .returned (.int .i64 (rlen ⟨k, t, ⟨va, vb, vt⟩, c, l⟩)) ∧ Gr w w' := by
  obtain ⟨a, cap, rfl, -, -, hb⟩ := hl.slice
  by_cases hk : k = 1 ∨ k = 2
  · rcases hk with rfl | rfl
    · go_enter Tryz.func69, Tryz.ntmps69
      go_wp2_with (go_at_call 94; refine (rclen_any _ _ _ _ _ _ _ l _ (RdAttrs.gr hl (by repeat (with_reducible first | assumption | exact Gr.refl _ | apply Gr.alloc | apply Gr.drewN | apply Gr.drew | apply Gr.iter | (refine Gr.setCell ?_ (by simp) _) | (refine Gr.trans ?_ (by assumption))))) ht (.inl rfl)).mono ?_; rintro e w' ⟨rfl, hg⟩)
      go_ret
      exact ⟨rfl, (by repeat (with_reducible first | assumption | exact Gr.refl _ | apply Gr.alloc | apply Gr.drewN | apply Gr.drew | apply Gr.iter | (refine Gr.setCell ?_ (by simp) _) | (refine Gr.trans ?_ (by assumption))))⟩
    · go_enter Tryz.func69, Tryz.ntmps69
      go_wp2_with (go_at_call 94; refine (rclen_any _ _ _ _ _ _ _ l _ (RdAttrs.gr hl (by repeat (with_reducible first | assumption | exact Gr.refl _ | apply Gr.alloc | apply Gr.drewN | apply Gr.drew | apply Gr.iter | (refine Gr.setCell ?_ (by simp) _) | (refine Gr.trans ?_ (by assumption))))) ht (.inr rfl)).mono ?_; rintro e w' ⟨rfl, hg⟩)
      go_ret
      exact ⟨rfl, (by repeat (with_reducible first | assumption | exact Gr.refl _ | apply Gr.alloc | apply Gr.drewN | apply Gr.drew | apply Gr.iter | (refine Gr.setCell ?_ (by simp) _) | (refine Gr.trans ?_ (by assumption))))⟩
  · have k1 : (k == 1) = false := by simp; omega
    have k2 : (k == 2) = false := by simp; omega
    go_enter Tryz.func69, Tryz.ntmps69
    go_wp2
    go_ret
    refine ⟨ret_int ?_, (by repeat (with_reducible first | assumption | exact Gr.refl _ | apply Gr.alloc | apply Gr.drewN | apply Gr.drew | apply Gr.iter | (refine Gr.setCell ?_ (by simp) _) | (refine Gr.trans ?_ (by assumption))))⟩
    simp only [rlen]
    rw [if_neg (by omega), if_neg (by omega)]
set_option maxHeartbeats 1000000 in
theorem rbad_any {ea : Nat → Addr} (l : List Op) (v : Value) (w : World) (hE : Env ea w) (hl : RdOps w v l) :
    Calls Tryz.prog 109 #[v] w fun e w' => e = .returned (.tuple #[.int .i64 (bad l).1, .int .i64 (bad l).2]) ∧ Gr w w' := by
  obtain ⟨a, n, cap, rfl, hcap, hm, hb, hn⟩ := hl.sl
  go_enter Tryz.func109, Tryz.ntmps109
  go_wp2
  go_loopw [4] (fun i wr => ∃ k : Nat, k ≤ n ∧ i = .int .i64 k ∧ Gr w wr ∧ badFrom k (l.drop k) = bad l) (fun i _ => n - (intOf i).toNat)
  case atStart => exact ⟨0, Nat.zero_le _, rfl, Gr.refl _, rfl⟩
  case round =>
    obtain ⟨k, hk, rfl, hg, ht⟩ := hrel
    have Ht := Lib.hid ht; clear ht
    by_cases hlt : k < n
    · obtain ⟨b, off, xk, xt, xa, xb, xv, xc, ats, sl, hx, rfl, hr, c0, c1, c2, c3, c4, c5, c6, s1, s2⟩ := (RdOps.gr hl hg).at_ k hlt
      have Hx := Lib.hid hx; clear hx
      have hlt' : (k : Int) < n := by omega
      obtain ⟨R, hR⟩ : ∃ R, checkOp ⟨xk, xt, ⟨xa, xb, xv⟩, xc, ats⟩ = R := ⟨_, rfl⟩
      have HR := Lib.hid hR; clear hR
      obtain ⟨sa, sc, hsl, -⟩ := RdList.slice hr
      subst hsl
      by_cases h0 : R = 0
      · subst h0
        go_wp2_with (go_at_call 132; refine (rocheck_any _ _ _ _ _ _ _ ats _ (hE.gr (by repeat (with_reducible first | assumption | exact Gr.refl _ | apply Gr.alloc | apply Gr.drewN | apply Gr.drew | apply Gr.iter | (refine Gr.setCell ?_ (by simp) _) | (refine Gr.trans ?_ (by assumption))))) (RdAttrs.gr (w := wr) hr (by repeat (with_reducible first | assumption | exact Gr.refl _ | apply Gr.alloc | apply Gr.drewN | apply Gr.drew | apply Gr.iter | (refine Gr.setCell ?_ (by simp) _) | (refine Gr.trans ?_ (by assumption))))) s1 s2).mono ?_; rw [HR.out]; rintro e w2 ⟨rfl, hg2⟩)
        go_roundw
        case rel => exact ⟨k + 1, by omega, by go_num, (by repeat (with_reducible first | assumption | exact Gr.refl _ | apply Gr.alloc | apply Gr.drewN | apply Gr.drew | apply Gr.iter | (refine Gr.setCell ?_ (by simp) _) | (refine Gr.trans ?_ (by assumption)))), by rw [← Ht.out, drop_cons Hx.out, badFrom_ok HR.out]⟩
        case measure => simp [intOf]; omega
      · have h0' : (R == 0) = false := by simpa using h0
        have h1' : (R != 0) = true := by simpa using h0
        have H0 := Lib.hid h0; clear h0
        go_wp2_with (go_at_call 132; refine (rocheck_any _ _ _ _ _ _ _ ats _ (hE.gr (by repeat (with_reducible first | assumption | exact Gr.refl _ | apply Gr.alloc | apply Gr.drewN | apply Gr.drew | apply Gr.iter | (refine Gr.setCell ?_ (by simp) _) | (refine Gr.trans ?_ (by assumption))))) (RdAttrs.gr (w := wr) hr (by repeat (with_reducible first | assumption | exact Gr.refl _ | apply Gr.alloc | apply Gr.drewN | apply Gr.drew | apply Gr.iter | (refine Gr.setCell ?_ (by simp) _) | (refine Gr.trans ?_ (by assumption))))) s1 s2).mono ?_; rw [HR.out]; rintro e w2 ⟨rfl, hg2⟩)
        go_ret2
        have hb : bad l = (k, R) := by rw [← Ht.out, drop_cons Hx.out, badFrom_bad (by rw [HR.out]; exact H0.out), HR.out]
        exact ⟨ret_ii (by rw [hb]) (by rw [hb]), (by repeat (with_reducible first | assumption | exact Gr.refl _ | apply Gr.alloc | apply Gr.drewN | apply Gr.drew | apply Gr.iter | (refine Gr.setCell ?_ (by simp) _) | (refine Gr.trans ?_ (by assumption))))⟩
    · obtain rfl : k = n := by omega
      have hl0 : l.drop k = [] := List.drop_eq_nil_of_le (by rw [hn.out]; exact Nat.le_refl _)
      have hb : bad l = (0, 0) := by rw [← Ht.out, hl0]; rfl
      have Hb := Lib.hid hb; clear hb hl0
      go_wp2
      go_ret2
      exact ⟨ret_ii (by rw [Hb.out]; rfl) (by rw [Hb.out]), (by repeat (with_reducible first | assumption | exact Gr.refl _ | apply Gr.alloc | apply Gr.drewN | apply Gr.drew | apply Gr.iter | (refine Gr.setCell ?_ (by simp) _) | (refine Gr.trans ?_ (by assumption))))⟩
theorem bad_zero {l : List Op} (h : (bad l).2 = 0) : ∀ o ∈ l, checkOp o = 0 := by
  have key : ∀ (l : List Op) i, (badFrom i l).2 = 0 → ∀ o ∈ l, checkOp o = 0 := by
    intro l
    induction l with
    | nil => intro i _ o ho; cases ho
    | cons x l ih =>
      intro i h o ho
      by_cases c : checkOp x = 0
      · rw [badFrom_ok c] at h
        rcases List.mem_cons.1 ho with e | e
        · rw [e]; exact c
        · exact ih _ h o e
      · rw [badFrom_bad c] at h
        exact absurd h c
  exact key l 0 h
theorem bad_all {l : List Op} (h : ∀ o ∈ l, checkOp o = 0) : bad l = (0, 0) := by
  have key : ∀ (l : List Op) i, (∀ o ∈ l, checkOp o = 0) → badFrom i l = (0, 0) := by
    intro l
    induction l with
    | nil => intro i _; rfl
    | cons x l ih =>
      intro i h
      rw [badFrom_ok (h x (by simp))]
      exact ih _ fun o ho => h o (by simp [ho])
  exact key l 0 h
theorem rlen_bound {o : Op} (h : checkOp o = 0) (hs : szS o.text) : 0 ≤ rlen o ∧ rlen o ≤ 1099511627776 := by
  unfold rlen
  by_cases h1 : o.kind = 1
  · rw [if_pos h1]
    have := runes_le o.text
    have := hs.le40
    omega
  · rw [if_neg h1]
    by_cases h2 : o.kind = 2
    · rw [if_pos h2]; omega
    · rw [if_neg h2]
      unfold checkOp at h
      rw [if_neg (show ¬ (o.kind = 1 ∨ o.kind = 2) by omega)] at h
      split at h
      · omega
      · split at h
        · omega
        · split at h
          · omega
          · unfold maxLength at *; omega
def baseO (o : Op) : Int := if o.kind = 3 ∨ o.kind = 4 then rlen o else 0
def resO (o : Op) : Int := if o.kind = 4 then 0 else rlen o
def lensFrom (b r : Int) : List Op → Int × Int × Int
  | [] => (b, r, 0)
  | o :: l => if 1099511627776 < b + baseO o ∨ 1099511627776 < r + resO o then (0, 0, 11) else lensFrom (b + baseO o) (r + resO o) l
/-- What ref05.Lengths answers. -/
def lensL (l : List Op) : Int × Int × Int := if (bad l).2 ≠ 0 then (0, 0, (bad l).2) else lensFrom 0 0 l
theorem ret_iii {k k' k'' : IntKind} {a b c d e f : Int} (h : a = b) (h' : c = d) (h'' : e = f) : Ending.returned (.tuple #[.int k a, .int k' c, .int k'' e]) = .returned (.tuple #[.int k b, .int k' d, .int k'' f]) := by rw [h, h', h'']
theorem lens_long {b r : Int} {o : Op} {l : List Op} {b' r' : Int} (hb : b + baseO o = b') (hr : r + resO o = r') (h : 1099511627776 < b' ∨ 1099511627776 < r') : lensFrom b r (o :: l) = (0, 0, 11) := by
  simp only [lensFrom]; rw [hb, hr, if_pos h]
theorem lens_step {b r : Int} {o : Op} {l : List Op} {b' r' : Int} (hb : b + baseO o = b') (hr : r + resO o = r') (h : ¬ 1099511627776 < b') (h' : ¬ 1099511627776 < r') : lensFrom b r (o :: l) = lensFrom b' r' l := by
  simp only [lensFrom]; rw [hb, hr, if_neg (by omega)]
set_option maxHeartbeats 4000000 in
theorem rlens_any {ea : Nat → Addr} (l : List Op) (v : Value) (w : World) (hE : Env ea w) (hl : RdOps w v l) :
    Calls Tryz.prog 64 #[v] w fun e w' => e = .returned (.tuple #[.int .i64 (lensL l).1, .int .i64 (lensL l).2.1, .int .i64 (lensL l).2.2]) ∧ Gr w w' := by
  obtain ⟨a, n, cap, rfl, hcap, hm, hb, hn⟩ := hl.sl
  obtain ⟨E, hE'⟩ : ∃ E, (bad l).2 = E := ⟨_, rfl⟩
  have HE := Lib.hid hE'; clear hE'
  by_cases h0 : E = 0
  · subst h0
    have hok := bad_zero HE.out
    have HL : Hid (lensL l = lensFrom 0 0 l) := Lib.hid (by unfold lensL; rw [if_neg (by simp [HE.out])])
    go_enter Tryz.func64, Tryz.ntmps64
    go_wp2_with (go_at_call 109; refine (rbad_any l _ _ (hE.gr (by repeat (with_reducible first | assumption | exact Gr.refl _ | apply Gr.alloc | apply Gr.drewN | apply Gr.drew | apply Gr.iter | (refine Gr.setCell ?_ (by simp) _) | (refine Gr.trans ?_ (by assumption))))) (RdOps.gr (w := w) hl (by repeat (with_reducible first | assumption | exact Gr.refl _ | apply Gr.alloc | apply Gr.drewN | apply Gr.drew | apply Gr.iter | (refine Gr.setCell ?_ (by simp) _) | (refine Gr.trans ?_ (by assumption)))))).mono ?_; rw [HE.out]; rintro e w1 ⟨rfl, hg1⟩)
    go_loopw [7, 8, 9] (fun x y i wr => ∃ (k : Nat) (b r : Int), k ≤ n ∧ i = .int .i64 k ∧ x = .int .i64 b ∧ y = .int .i64 r ∧ 0 ≤ b ∧ b ≤ 1099511627776 ∧ 0 ≤ r ∧ r ≤ 1099511627776 ∧ Gr w wr ∧ lensFrom b r (l.drop k) = lensL l) (fun _ _ i _ => n - (intOf i).toNat)
    case atStart => exact ⟨0, 0, 0, Nat.zero_le _, rfl, rfl, rfl, by omega, by omega, by omega, by omega, (by repeat (with_reducible first | assumption | exact Gr.refl _ | apply Gr.alloc | apply Gr.drewN | apply Gr.drew | apply Gr.iter | (refine Gr.setCell ?_ (by simp) _) | (refine Gr.trans ?_ (by assumption)))), HL.out.symm⟩
    case round =>
      obtain ⟨k, b, r, hk, rfl, rfl, rfl, hb0, hb1, hr0, hr1, hg, ht⟩ := hrel
      have Ht := Lib.hid ht; clear ht
      by_cases hlt : k < n
      · obtain ⟨blk, off, xk, xt, xa, xb, xv, xc, ats, sl, hx, rfl, hr, c0, c1, c2, c3, c4, c5, c6, s1, s2⟩ := (RdOps.gr hl hg).at_ k hlt
        have hck := hok _ (List.mem_of_getElem? hx)
        have hkind : xk = 1 ∨ xk = 2 ∨ xk = 3 ∨ xk = 4 := by
          have := hasOnly_kind (o := ⟨xk, xt, ⟨xa, xb, xv⟩, xc, ats⟩) (by
            cases h : hasOnly ⟨xk, xt, ⟨xa, xb, xv⟩, xc, ats⟩ with
            | true => rfl
            | false => simp [checkOp, h] at hck)
          exact this
        obtain ⟨N0, N1⟩ := rlen_bound hck s1
        have Hx := Lib.hid hx; clear hx hck
        have hlt' : (k : Int) < n := by omega
        obtain ⟨N, hN⟩ : ∃ N, rlen ⟨xk, xt, ⟨xa, xb, xv⟩, xc, ats⟩ = N := ⟨_, rfl⟩
        rw [hN] at N0 N1
        have HN := Lib.hid hN; clear hN
        obtain ⟨sa, sc, hsl, -⟩ := RdList.slice hr
        subst hsl
        rcases hkind with rfl | rfl | rfl | rfl
        · have eb : b + baseO ⟨1, xt, ⟨xa, xb, xv⟩, xc, ats⟩ = b := by (have := HN.out; simp [baseO, this])
          have er : r + resO ⟨1, xt, ⟨xa, xb, xv⟩, xc, ats⟩ = r + N := by (have := HN.out; simp [resO, this])
          have EB := Lib.hid (And.intro eb er); clear eb er
          have h1 : ¬ 1099511627776 < b := by omega
          by_cases h2 : 1099511627776 < r + N
          · have hL : lensL l = (0, 0, 11) := by rw [← Ht.out, drop_cons Hx.out, lens_long EB.out.1 EB.out.2 (.inr h2)]
            have HL2 := Lib.hid hL; clear hL
            go_wp2_with (go_at_call 69; refine (rlen_any _ _ _ _ _ _ _ ats _ (RdAttrs.gr (w := wr) hr (by repeat (with_reducible first | assumption | exact Gr.refl _ | apply Gr.alloc | apply Gr.drewN | apply Gr.drew | apply Gr.iter | (refine Gr.setCell ?_ (by simp) _) | (refine Gr.trans ?_ (by assumption))))) s1).mono ?_; rw [HN.out]; rintro e w2 ⟨rfl, hg2⟩; have d0 := hg2.cell c0; have z0 := cell_lt d0)
            go_ret3
            exact ⟨ret_iii (by rw [HL2.out]) (by rw [HL2.out]) (by rw [HL2.out]), (by repeat (with_reducible first | assumption | exact Gr.refl _ | apply Gr.alloc | apply Gr.drewN | apply Gr.drew | apply Gr.iter | (refine Gr.setCell ?_ (by simp) _) | (refine Gr.trans ?_ (by assumption))))⟩
          · have hL := (congrArg (lensFrom b r) (drop_cons Hx.out)).symm.trans Ht.out
            rw [lens_step EB.out.1 EB.out.2 h1 h2] at hL
            have HL2 := Lib.hid hL; clear hL
            go_wp2_with (go_at_call 69; refine (rlen_any _ _ _ _ _ _ _ ats _ (RdAttrs.gr (w := wr) hr (by repeat (with_reducible first | assumption | exact Gr.refl _ | apply Gr.alloc | apply Gr.drewN | apply Gr.drew | apply Gr.iter | (refine Gr.setCell ?_ (by simp) _) | (refine Gr.trans ?_ (by assumption))))) s1).mono ?_; rw [HN.out]; rintro e w2 ⟨rfl, hg2⟩; have d0 := hg2.cell c0; have z0 := cell_lt d0)
            go_roundw
            case rel => exact ⟨k + 1, b, r + N, by omega, by go_num, rfl, rfl, by omega, by omega, by omega, by omega, (by repeat (with_reducible first | assumption | exact Gr.refl _ | apply Gr.alloc | apply Gr.drewN | apply Gr.drew | apply Gr.iter | (refine Gr.setCell ?_ (by simp) _) | (refine Gr.trans ?_ (by assumption)))), HL2.out⟩
            case measure => simp [intOf]; omega
        · have eb : b + baseO ⟨2, xt, ⟨xa, xb, xv⟩, xc, ats⟩ = b := by (have := HN.out; simp [baseO, this])
          have er : r + resO ⟨2, xt, ⟨xa, xb, xv⟩, xc, ats⟩ = r + N := by (have := HN.out; simp [resO, this])
          have EB := Lib.hid (And.intro eb er); clear eb er
          have h1 : ¬ 1099511627776 < b := by omega
          by_cases h2 : 1099511627776 < r + N
          · have hL : lensL l = (0, 0, 11) := by rw [← Ht.out, drop_cons Hx.out, lens_long EB.out.1 EB.out.2 (.inr h2)]
            have HL2 := Lib.hid hL; clear hL
            go_wp2_with (go_at_call 69; refine (rlen_any _ _ _ _ _ _ _ ats _ (RdAttrs.gr (w := wr) hr (by repeat (with_reducible first | assumption | exact Gr.refl _ | apply Gr.alloc | apply Gr.drewN | apply Gr.drew | apply Gr.iter | (refine Gr.setCell ?_ (by simp) _) | (refine Gr.trans ?_ (by assumption))))) s1).mono ?_; rw [HN.out]; rintro e w2 ⟨rfl, hg2⟩; have d0 := hg2.cell c0; have z0 := cell_lt d0)
            go_ret3
            exact ⟨ret_iii (by rw [HL2.out]) (by rw [HL2.out]) (by rw [HL2.out]), (by repeat (with_reducible first | assumption | exact Gr.refl _ | apply Gr.alloc | apply Gr.drewN | apply Gr.drew | apply Gr.iter | (refine Gr.setCell ?_ (by simp) _) | (refine Gr.trans ?_ (by assumption))))⟩
          · have hL := (congrArg (lensFrom b r) (drop_cons Hx.out)).symm.trans Ht.out
            rw [lens_step EB.out.1 EB.out.2 h1 h2] at hL
            have HL2 := Lib.hid hL; clear hL
            go_wp2_with (go_at_call 69; refine (rlen_any _ _ _ _ _ _ _ ats _ (RdAttrs.gr (w := wr) hr (by repeat (with_reducible first | assumption | exact Gr.refl _ | apply Gr.alloc | apply Gr.drewN | apply Gr.drew | apply Gr.iter | (refine Gr.setCell ?_ (by simp) _) | (refine Gr.trans ?_ (by assumption))))) s1).mono ?_; rw [HN.out]; rintro e w2 ⟨rfl, hg2⟩; have d0 := hg2.cell c0; have z0 := cell_lt d0)
            go_roundw
            case rel => exact ⟨k + 1, b, r + N, by omega, by go_num, rfl, rfl, by omega, by omega, by omega, by omega, (by repeat (with_reducible first | assumption | exact Gr.refl _ | apply Gr.alloc | apply Gr.drewN | apply Gr.drew | apply Gr.iter | (refine Gr.setCell ?_ (by simp) _) | (refine Gr.trans ?_ (by assumption)))), HL2.out⟩
            case measure => simp [intOf]; omega
        · have eb : b + baseO ⟨3, xt, ⟨xa, xb, xv⟩, xc, ats⟩ = b + N := by (have := HN.out; simp [baseO, this])
          have er : r + resO ⟨3, xt, ⟨xa, xb, xv⟩, xc, ats⟩ = r + N := by (have := HN.out; simp [resO, this])
          have EB := Lib.hid (And.intro eb er); clear eb er
          by_cases h1 : 1099511627776 < b + N
          · have hL : lensL l = (0, 0, 11) := by rw [← Ht.out, drop_cons Hx.out, lens_long EB.out.1 EB.out.2 (.inl h1)]
            have HL2 := Lib.hid hL; clear hL
            go_wp2_with (go_at_call 69; refine (rlen_any _ _ _ _ _ _ _ ats _ (RdAttrs.gr (w := wr) hr (by repeat (with_reducible first | assumption | exact Gr.refl _ | apply Gr.alloc | apply Gr.drewN | apply Gr.drew | apply Gr.iter | (refine Gr.setCell ?_ (by simp) _) | (refine Gr.trans ?_ (by assumption))))) s1).mono ?_; rw [HN.out]; rintro e w2 ⟨rfl, hg2⟩; have d0 := hg2.cell c0; have z0 := cell_lt d0)
            go_ret3
            exact ⟨ret_iii (by rw [HL2.out]) (by rw [HL2.out]) (by rw [HL2.out]), (by repeat (with_reducible first | assumption | exact Gr.refl _ | apply Gr.alloc | apply Gr.drewN | apply Gr.drew | apply Gr.iter | (refine Gr.setCell ?_ (by simp) _) | (refine Gr.trans ?_ (by assumption))))⟩
          by_cases h2 : 1099511627776 < r + N
          · have hL : lensL l = (0, 0, 11) := by rw [← Ht.out, drop_cons Hx.out, lens_long EB.out.1 EB.out.2 (.inr h2)]
            have HL2 := Lib.hid hL; clear hL
            go_wp2_with (go_at_call 69; refine (rlen_any _ _ _ _ _ _ _ ats _ (RdAttrs.gr (w := wr) hr (by repeat (with_reducible first | assumption | exact Gr.refl _ | apply Gr.alloc | apply Gr.drewN | apply Gr.drew | apply Gr.iter | (refine Gr.setCell ?_ (by simp) _) | (refine Gr.trans ?_ (by assumption))))) s1).mono ?_; rw [HN.out]; rintro e w2 ⟨rfl, hg2⟩; have d0 := hg2.cell c0; have z0 := cell_lt d0)
            go_ret3
            exact ⟨ret_iii (by rw [HL2.out]) (by rw [HL2.out]) (by rw [HL2.out]), (by repeat (with_reducible first | assumption | exact Gr.refl _ | apply Gr.alloc | apply Gr.drewN | apply Gr.drew | apply Gr.iter | (refine Gr.setCell ?_ (by simp) _) | (refine Gr.trans ?_ (by assumption))))⟩
          · have hL := (congrArg (lensFrom b r) (drop_cons Hx.out)).symm.trans Ht.out
            rw [lens_step EB.out.1 EB.out.2 h1 h2] at hL
            have HL2 := Lib.hid hL; clear hL
            go_wp2_with (go_at_call 69; refine (rlen_any _ _ _ _ _ _ _ ats _ (RdAttrs.gr (w := wr) hr (by repeat (with_reducible first | assumption | exact Gr.refl _ | apply Gr.alloc | apply Gr.drewN | apply Gr.drew | apply Gr.iter | (refine Gr.setCell ?_ (by simp) _) | (refine Gr.trans ?_ (by assumption))))) s1).mono ?_; rw [HN.out]; rintro e w2 ⟨rfl, hg2⟩; have d0 := hg2.cell c0; have z0 := cell_lt d0)
            go_roundw
            case rel => exact ⟨k + 1, b + N, r + N, by omega, by go_num, rfl, rfl, by omega, by omega, by omega, by omega, (by repeat (with_reducible first | assumption | exact Gr.refl _ | apply Gr.alloc | apply Gr.drewN | apply Gr.drew | apply Gr.iter | (refine Gr.setCell ?_ (by simp) _) | (refine Gr.trans ?_ (by assumption)))), HL2.out⟩
            case measure => simp [intOf]; omega
        · have eb : b + baseO ⟨4, xt, ⟨xa, xb, xv⟩, xc, ats⟩ = b + N := by (have := HN.out; simp [baseO, this])
          have er : r + resO ⟨4, xt, ⟨xa, xb, xv⟩, xc, ats⟩ = r := by (have := HN.out; simp [resO, this])
          have EB := Lib.hid (And.intro eb er); clear eb er
          have h2 : ¬ 1099511627776 < r := by omega
          by_cases h1 : 1099511627776 < b + N
          · have hL : lensL l = (0, 0, 11) := by rw [← Ht.out, drop_cons Hx.out, lens_long EB.out.1 EB.out.2 (.inl h1)]
            have HL2 := Lib.hid hL; clear hL
            go_wp2_with (go_at_call 69; refine (rlen_any _ _ _ _ _ _ _ ats _ (RdAttrs.gr (w := wr) hr (by repeat (with_reducible first | assumption | exact Gr.refl _ | apply Gr.alloc | apply Gr.drewN | apply Gr.drew | apply Gr.iter | (refine Gr.setCell ?_ (by simp) _) | (refine Gr.trans ?_ (by assumption))))) s1).mono ?_; rw [HN.out]; rintro e w2 ⟨rfl, hg2⟩; have d0 := hg2.cell c0; have z0 := cell_lt d0)
            go_ret3
            exact ⟨ret_iii (by rw [HL2.out]) (by rw [HL2.out]) (by rw [HL2.out]), (by repeat (with_reducible first | assumption | exact Gr.refl _ | apply Gr.alloc | apply Gr.drewN | apply Gr.drew | apply Gr.iter | (refine Gr.setCell ?_ (by simp) _) | (refine Gr.trans ?_ (by assumption))))⟩
          · have hL := (congrArg (lensFrom b r) (drop_cons Hx.out)).symm.trans Ht.out
            rw [lens_step EB.out.1 EB.out.2 h1 h2] at hL
            have HL2 := Lib.hid hL; clear hL
            go_wp2_with (go_at_call 69; refine (rlen_any _ _ _ _ _ _ _ ats _ (RdAttrs.gr (w := wr) hr (by repeat (with_reducible first | assumption | exact Gr.refl _ | apply Gr.alloc | apply Gr.drewN | apply Gr.drew | apply Gr.iter | (refine Gr.setCell ?_ (by simp) _) | (refine Gr.trans ?_ (by assumption))))) s1).mono ?_; rw [HN.out]; rintro e w2 ⟨rfl, hg2⟩; have d0 := hg2.cell c0; have z0 := cell_lt d0)
            go_roundw
            case rel => exact ⟨k + 1, b + N, r, by omega, by go_num, rfl, rfl, by omega, by omega, by omega, by omega, (by repeat (with_reducible first | assumption | exact Gr.refl _ | apply Gr.alloc | apply Gr.drewN | apply Gr.drew | apply Gr.iter | (refine Gr.setCell ?_ (by simp) _) | (refine Gr.trans ?_ (by assumption)))), HL2.out⟩
            case measure => simp [intOf]; omega
      · obtain rfl : k = n := by omega
        have hl0 : l.drop k = [] := List.drop_eq_nil_of_le (by rw [hn.out]; exact Nat.le_refl _)
        have hb : lensL l = (b, r, 0) := by rw [← Ht.out, hl0]; rfl
        have Hb := Lib.hid hb; clear hb hl0
        go_wp2
        go_ret3
        exact ⟨ret_iii (by rw [Hb.out]) (by rw [Hb.out]) (by rw [Hb.out]), (by repeat (with_reducible first | assumption | exact Gr.refl _ | apply Gr.alloc | apply Gr.drewN | apply Gr.drew | apply Gr.iter | (refine Gr.setCell ?_ (by simp) _) | (refine Gr.trans ?_ (by assumption))))⟩
  · have h0' : (E == 0) = false := by simpa using h0
    have h1' : (E != 0) = true := by simpa using h0
    have HL : Hid (lensL l = (0, 0, E)) := Lib.hid (by unfold lensL; rw [if_pos (by rw [HE.out]; exact h0), HE.out])
    clear h0
    go_enter Tryz.func64, Tryz.ntmps64
    go_wp2_with (go_at_call 109; refine (rbad_any l _ _ (hE.gr (by repeat (with_reducible first | assumption | exact Gr.refl _ | apply Gr.alloc | apply Gr.drewN | apply Gr.drew | apply Gr.iter | (refine Gr.setCell ?_ (by simp) _) | (refine Gr.trans ?_ (by assumption))))) (RdOps.gr (w := w) hl (by repeat (with_reducible first | assumption | exact Gr.refl _ | apply Gr.alloc | apply Gr.drewN | apply Gr.drew | apply Gr.iter | (refine Gr.setCell ?_ (by simp) _) | (refine Gr.trans ?_ (by assumption)))))).mono ?_; rw [HE.out]; rintro e w1 ⟨rfl, hg1⟩)
    go_ret3
    exact ⟨ret_iii (by rw [HL.out]) (by rw [HL.out]) (by rw [HL.out]), (by repeat (with_reducible first | assumption | exact Gr.refl _ | apply Gr.alloc | apply Gr.drewN | apply Gr.drew | apply Gr.iter | (refine Gr.setCell ?_ (by simp) _) | (refine Gr.trans ?_ (by assumption))))⟩
end Ve
/- Walks of the reference of layer 5: apart, Canonical, SameOp, Same. -/
namespace Ve
open Go Go.RowKit Go.Proofs

def apartO (a b : Op) : Bool := if a.kind = 4 then b.kind == 3 else if a.kind ≠ b.kind ∨ a.kind = 2 then true else !decide (a.attrs = b.attrs)
set_option maxHeartbeats 2000000 in
theorem rapart_any (k : Int) (t : ByteArray) (va vb : Int) (vt : ByteArray) (c : Int) (sl : Value) (l : List Attr) (k' : Int) (t' : ByteArray) (va' vb' : Int) (vt' : ByteArray) (c' : Int) (sl' : Value) (l' : List Attr) (w : World) (hl : RdAttrs w sl l) (hl' : RdAttrs w sl' l') :
    Calls Tryz.prog 65 #[.agg #[.int .i64 k, .string t, .int .i64 va, .int .i64 vb, .string vt, .int .i64 c, sl], .agg #[.int .i64 k', .string t', .int .i64 va', .int .i64 vb', .string vt', .int .i64 c', sl']] w fun e w' => e = .returned (.bool (apartO ⟨k, t, ⟨va, vb, vt⟩, c, l⟩ ⟨k', t', ⟨va', vb', vt'⟩, c', l'⟩)) ∧ Gr w w' := by
  obtain ⟨a, cap, rfl, -⟩ := hl.slice
  obtain ⟨a', cap', rfl, -⟩ := hl'.slice
  obtain ⟨D, hD⟩ : ∃ b, decide (l = l') = b := ⟨_, rfl⟩
  have HD := Lib.hid hD; clear hD
  obtain ⟨A, hA⟩ : ∃ b, apartO ⟨k, t, ⟨va, vb, vt⟩, c, l⟩ ⟨k', t', ⟨va', vb', vt'⟩, c', l'⟩ = b := ⟨_, rfl⟩
  have hA' := hA
  rw [hA']
  clear hA'
  simp only [apartO] at hA
  by_cases h4 : k = 4
  · subst h4
    rw [if_pos rfl] at hA
    subst hA
    go_enter Tryz.func65, Tryz.ntmps65
    go_wp2
    go_ret
    exact ⟨rfl, (by repeat (with_reducible first | assumption | exact Gr.refl _ | apply Gr.alloc | apply Gr.drewN | apply Gr.drew | apply Gr.iter | (refine Gr.setCell ?_ (by simp) _) | (refine Gr.trans ?_ (by assumption))))⟩
  · rw [if_neg h4] at hA
    have h4' : (k == 4) = false := by simpa using h4
    by_cases hkk : k = k'
    · subst hkk
      by_cases h2 : k = 2
      · subst h2
        rw [if_pos (.inr rfl)] at hA
        subst hA
        go_enter Tryz.func65, Tryz.ntmps65
        go_wp2
        go_ret
        exact ⟨rfl, (by repeat (with_reducible first | assumption | exact Gr.refl _ | apply Gr.alloc | apply Gr.drewN | apply Gr.drew | apply Gr.iter | (refine Gr.setCell ?_ (by simp) _) | (refine Gr.trans ?_ (by assumption))))⟩
      · have h2' : (k == 2) = false := by simpa using h2
        rw [if_neg (by simp; exact h2)] at hA
        have HA := Lib.hid hA; clear hA h2 h4
        go_enter Tryz.func65, Tryz.ntmps65
        go_wp2_with (go_at_call 110; refine (sameRef_any l l' _ _ _ (RdAttrs.gr hl (by repeat (with_reducible first | assumption | exact Gr.refl _ | apply Gr.alloc | apply Gr.drewN | apply Gr.drew | apply Gr.iter | (refine Gr.setCell ?_ (by simp) _) | (refine Gr.trans ?_ (by assumption))))) (RdAttrs.gr hl' (by repeat (with_reducible first | assumption | exact Gr.refl _ | apply Gr.alloc | apply Gr.drewN | apply Gr.drew | apply Gr.iter | (refine Gr.setCell ?_ (by simp) _) | (refine Gr.trans ?_ (by assumption)))))).mono ?_; rw [HD.out]; rintro e w1 ⟨rfl, hg1⟩)
        go_ret
        exact ⟨ret_bool (by rw [← HA.out, HD.out]), (by repeat (with_reducible first | assumption | exact Gr.refl _ | apply Gr.alloc | apply Gr.drewN | apply Gr.drew | apply Gr.iter | (refine Gr.setCell ?_ (by simp) _) | (refine Gr.trans ?_ (by assumption))))⟩
    · have hk1 : (k == k') = false := by simpa using hkk
      have hk2 : (k != k') = true := by simpa using hkk
      rw [if_pos (.inl hkk)] at hA
      subst hA
      clear h4 hkk
      go_enter Tryz.func65, Tryz.ntmps65
      go_wp2
      go_ret
      exact ⟨rfl, (by repeat (with_reducible first | assumption | exact Gr.refl _ | apply Gr.alloc | apply Gr.drewN | apply Gr.drew | apply Gr.iter | (refine Gr.setCell ?_ (by simp) _) | (refine Gr.trans ?_ (by assumption))))⟩
set_option maxHeartbeats 2000000 in
theorem rsameop_any (k : Int) (t : ByteArray) (va vb : Int) (vt : ByteArray) (c : Int) (sl : Value) (l : List Attr) (k' : Int) (t' : ByteArray) (va' vb' : Int) (vt' : ByteArray) (c' : Int) (sl' : Value) (l' : List Attr) (w : World) (hl : RdAttrs w sl l) (hl' : RdAttrs w sl' l') :
    Calls Tryz.prog 117 #[.agg #[.int .i64 k, .string t, .int .i64 va, .int .i64 vb, .string vt, .int .i64 c, sl], .agg #[.int .i64 k', .string t', .int .i64 va', .int .i64 vb', .string vt', .int .i64 c', sl']] w fun e w' => e = .returned (.bool (decide ((⟨k, t, ⟨va, vb, vt⟩, c, l⟩ : Op) = ⟨k', t', ⟨va', vb', vt'⟩, c', l'⟩))) ∧ Gr w w' := by
  obtain ⟨a, cap, rfl, -⟩ := hl.slice
  obtain ⟨a', cap', rfl, -⟩ := hl'.slice
  obtain ⟨D, hD⟩ : ∃ b, decide (l = l') = b := ⟨_, rfl⟩
  have HD := Lib.hid hD; clear hD
  go_enter Tryz.func117, Tryz.ntmps117
  go_wp2_with (go_at_call 110; refine (sameRef_any l l' _ _ _ (RdAttrs.gr hl (by repeat (with_reducible first | assumption | exact Gr.refl _ | apply Gr.alloc | apply Gr.drewN | apply Gr.drew | apply Gr.iter | (refine Gr.setCell ?_ (by simp) _) | (refine Gr.trans ?_ (by assumption))))) (RdAttrs.gr hl' (by repeat (with_reducible first | assumption | exact Gr.refl _ | apply Gr.alloc | apply Gr.drewN | apply Gr.drew | apply Gr.iter | (refine Gr.setCell ?_ (by simp) _) | (refine Gr.trans ?_ (by assumption)))))).mono ?_; rw [HD.out]; rintro e w1 ⟨rfl, hg1⟩)
  all_goals go_ret
  all_goals refine ⟨ret_bool ?_, (by repeat (with_reducible first | assumption | exact Gr.refl _ | apply Gr.alloc | apply Gr.drewN | apply Gr.drew | apply Gr.iter | (refine Gr.setCell ?_ (by simp) _) | (refine Gr.trans ?_ (by assumption))))⟩
  all_goals have hd := HD.out
  ((all_goals go_light); (all_goals (try simp_all [eqS, eqP])); (all_goals (first | omega | rfl | (rw [Bool.eq_iff_iff]; simp; done) | (intros; omega) | (intros; simp_all; done) | (intros; simp_all; omega) | (split <;> simp_all; done) | (split <;> simp_all <;> omega))))
def apartFrom : Op → List Op → Bool
  | _, [] => true
  | a, b :: r => apartO a b && apartFrom b r
def apartAll : List Op → Bool
  | [] => true
  | a :: r => apartFrom a r
def lastOk (l : List Op) : Bool := match l.getLast? with
  | none => true
  | some o => o.kind != 3 || o.attrs.length != 0
/-- Is a list canonical? -/
def canonL (l : List Op) : Bool := (lensL l).2.2 == 0 && (apartAll l && lastOk l)
theorem apart_start (l : List Op) : ∀ x, l[0]? = some x → apartAll l = apartFrom x (l.drop 1) := by
  intro x hx
  cases l with
  | nil => simp at hx
  | cons y l => simp at hx; subst hx; rfl
theorem lastOk_at {l : List Op} {n : Nat} {o : Op} (hn : l.length = n + 1) (ho : l[n]? = some o) : lastOk l = (o.kind != 3 || o.attrs.length != 0) := by
  unfold lastOk
  rw [List.getLast?_eq_getElem?, hn]
  simp only [Nat.add_sub_cancel, ho]
set_option maxHeartbeats 4000000 in
theorem rcanon_any {ea : Nat → Addr} (l : List Op) (v : Value) (w : World) (hE : Env ea w) (hl : RdOps w v l) :
    Calls Tryz.prog 17 #[v] w fun e w' => e = .returned (.bool (canonL l)) ∧ Gr w w' := by
  obtain ⟨a, n, cap, rfl, hcap, hm, hb, hn⟩ := hl.sl
  obtain ⟨E, hE'⟩ : ∃ E, (lensL l).2.2 = E := ⟨_, rfl⟩
  have HE := Lib.hid hE'; clear hE'
  by_cases h0 : E = 0
  · subst h0
    go_enter Tryz.func17, Tryz.ntmps17
    go_wp2_with (go_at_call 64; refine (rlens_any l _ _ (hE.gr (by repeat (with_reducible first | assumption | exact Gr.refl _ | apply Gr.alloc | apply Gr.drewN | apply Gr.drew | apply Gr.iter | (refine Gr.setCell ?_ (by simp) _) | (refine Gr.trans ?_ (by assumption))))) (RdOps.gr (w := w) hl (by repeat (with_reducible first | assumption | exact Gr.refl _ | apply Gr.alloc | apply Gr.drewN | apply Gr.drew | apply Gr.iter | (refine Gr.setCell ?_ (by simp) _) | (refine Gr.trans ?_ (by assumption)))))).mono ?_; rw [HE.out]; rintro e w1 ⟨rfl, hg1⟩)
    go_loopw [6] (fun i wr => ∃ k : Nat, (k = 0 ∨ k < n) ∧ i = .int .i64 ((k : Int) + 1) ∧ Gr w wr ∧ ∀ x, l[k]? = some x → apartAll l = apartFrom x (l.drop (k + 1))) (fun i _ => n - (intOf i).toNat)
    case atStart => exact ⟨0, .inl rfl, rfl, (by repeat (with_reducible first | assumption | exact Gr.refl _ | apply Gr.alloc | apply Gr.drewN | apply Gr.drew | apply Gr.iter | (refine Gr.setCell ?_ (by simp) _) | (refine Gr.trans ?_ (by assumption)))), apart_start l⟩
    case round =>
      obtain ⟨k, hk, rfl, hg, ht⟩ := hrel
      have Ht := Lib.hid ht; clear ht
      by_cases hlt : k + 1 < n
      · obtain ⟨blk, off, xk, xt, xa, xb, xv, xc, ats, sl, hx, rfl, hr, c0, c1, c2, c3, c4, c5, c6, s1, s2⟩ := (RdOps.gr hl hg).at_ k (by omega)
        obtain ⟨blk', off', yk, yt, ya, yb, yv, yc, bts, tl, hy, e', hr', d0, d1, d2, d3, d4, d5, d6, s1', s2'⟩ := (RdOps.gr hl hg).at_ (k + 1) hlt
        injection e' with e'; injection e' with eb eo; subst eb eo
        have Hx := Lib.hid hx; clear hx
        have Hy := Lib.hid hy; clear hy
        have hlt' : (k : Int) + 1 < n := by omega
        have hlt2 : (k : Int) < n := by omega
        obtain ⟨sa, sc, hsl, -⟩ := RdList.slice hr
        subst hsl
        obtain ⟨sa', sc', hsl, -⟩ := RdList.slice hr'
        subst hsl
        have hstep : apartAll l = (apartO ⟨xk, xt, ⟨xa, xb, xv⟩, xc, ats⟩ ⟨yk, yt, ⟨ya, yb, yv⟩, yc, bts⟩ && apartFrom ⟨yk, yt, ⟨ya, yb, yv⟩, yc, bts⟩ (l.drop (k + 2))) := by
          rw [Ht.out _ Hx.out, drop_cons Hy.out]; rfl
        obtain ⟨A, hA⟩ : ∃ b, apartO ⟨xk, xt, ⟨xa, xb, xv⟩, xc, ats⟩ ⟨yk, yt, ⟨ya, yb, yv⟩, yc, bts⟩ = b := ⟨_, rfl⟩
        rw [hA] at hstep
        have HA := Lib.hid hA; clear hA
        have HS := Lib.hid hstep; clear hstep
        have x1 : IntKind.i64.wrap ((k : Int) + 1) = (k : Int) + 1 := IntWalk.i64_in _ (by omega)
        have x2 : ((k : Int) + 1).toNat = k + 1 := by omega
        have x3 : (0 : Int) ≤ (k : Int) + 1 := by omega
        have x5 : IntKind.i64.wrap (k : Int) = (k : Int) := IntWalk.i64_in _ (by omega)
        have x4 : IntKind.i64.wrap ((k : Int) + 1 - 1) = (k : Int) := by rw [Int.add_sub_cancel]; exact IntWalk.i64_in _ (by omega)
        cases A
        all_goals
          go_wp2
          (refine wp_region_gr (by kernel_rfl) (by kernel_rfl) ?_; (repeat (refine wpQuiet_step (fun K hK => ?_); go_simp; first | (refine hK _ ?_; clear hK K) | (refine ⟨_, fun _ _ => rfl, hK _ ?_⟩; clear hK K) | (apply Exists.intro; refine ⟨fun wq hq => ?_, hK _ ?_⟩; (first | exact ((rapart_any _ _ _ _ _ _ _ ats _ _ _ _ _ _ _ bts wq (RdAttrs.gr (w := wr) hr hq) (RdAttrs.gr (w := wr) hr' hq)).mono fun e w' h => by rw [HA.out] at h; exact ⟨h.1, hq.trans h.2⟩) | (have q0 := hq.cell c0; have q1 := hq.cell c1; have q2 := hq.cell c2; have q3 := hq.cell c3; have q4 := hq.cell c4; have q5 := hq.cell c5; have q6 := hq.cell c6; have r0 := hq.cell d0; have r1 := hq.cell d1; have r2 := hq.cell d2; have r3 := hq.cell d3; have r4 := hq.cell d4; have r5 := hq.cell d5; have r6 := hq.cell d6; go_simp; rfl)); clear hK K))); refine wpQuiet_nil ?_)
          intro w3 hg3
          go_wp2
        · go_ret
          have hs := HS.out
          exact ⟨ret_bool (by simp [canonL, hs]), (by repeat (with_reducible first | assumption | exact Gr.refl _ | apply Gr.alloc | apply Gr.drewN | apply Gr.drew | apply Gr.iter | (refine Gr.setCell ?_ (by simp) _) | (refine Gr.trans ?_ (by assumption))))⟩
        · go_roundw
          case rel =>
            refine ⟨k + 1, .inr hlt, by go_num, (by repeat (with_reducible first | assumption | exact Gr.refl _ | apply Gr.alloc | apply Gr.drewN | apply Gr.drew | apply Gr.iter | (refine Gr.setCell ?_ (by simp) _) | (refine Gr.trans ?_ (by assumption)))), ?_⟩
            intro x hx
            have := Option.some.inj (Hy.out.symm.trans hx)
            subst this
            exact HS.out
          case measure => simp [intOf]; omega
      · have hge : ¬ ((k : Int) + 1 < n) := by omega
        have hap : apartAll l = true := by
          rcases Nat.eq_zero_or_pos n with hz | hz
          · have : l = [] := List.eq_nil_of_length_eq_zero (by rw [hn.out]; exact hz)
            rw [this]; rfl
          · obtain ⟨x, hx⟩ : ∃ x, l[k]? = some x := ⟨l[k]'(by have := hn.out; omega), List.getElem?_eq_getElem _⟩
            rw [Ht.out x hx, List.drop_eq_nil_of_le (by have := hn.out; omega)]; rfl
        have HAp := Lib.hid hap; clear hap
        rcases Nat.eq_zero_or_pos n with hz | hz
        · subst hz
          have hl0 : l = [] := List.eq_nil_of_length_eq_zero hn.out
          have HL0 := Lib.hid hl0; clear hl0
          go_wp2
          go_ret
          refine ⟨ret_bool ?_, (by repeat (with_reducible first | assumption | exact Gr.refl _ | apply Gr.alloc | apply Gr.drewN | apply Gr.drew | apply Gr.iter | (refine Gr.setCell ?_ (by simp) _) | (refine Gr.trans ?_ (by assumption))))⟩
          simp [canonL, HE.out, HAp.out]
          rw [HL0.out]; rfl
        · obtain ⟨m, rfl⟩ : ∃ m, n = m + 1 := ⟨n - 1, by omega⟩
          obtain ⟨blk, off, xk, xt, xa, xb, xv, xc, ats, sl, hx, rfl, hr, c0, c1, c2, c3, c4, c5, c6, s1, s2⟩ := (RdOps.gr hl hg).at_ m (by omega)
          obtain ⟨sa, sc, hsl, -, -, hlen⟩ := RdList.slice hr
          subst hsl
          have hlo := lastOk_at hn.out hx
          have HLO := Lib.hid hlo; clear hlo
          have Hx := Lib.hid hx; clear hx
          have y1 : ((m : Int) + 1 == 0) = false := by simp; omega
          go_wp2
          all_goals go_ret
          all_goals refine ⟨ret_bool ?_, (by repeat (with_reducible first | assumption | exact Gr.refl _ | apply Gr.alloc | apply Gr.drewN | apply Gr.drew | apply Gr.iter | (refine Gr.setCell ?_ (by simp) _) | (refine Gr.trans ?_ (by assumption))))⟩
          all_goals simp only [canonL, HE.out, HAp.out, HLO.out]
          all_goals go_light
          all_goals simp_all
          all_goals (first | omega | (rw [Bool.eq_iff_iff]; simp; omega) | (cases ats <;> simp; done) | skip)
  · have h0' : (E == 0) = false := by simpa using h0
    have h1' : (E != 0) = true := by simpa using h0
    clear h0
    go_enter Tryz.func17, Tryz.ntmps17
    go_wp2_with (go_at_call 64; refine (rlens_any l _ _ (hE.gr (by repeat (with_reducible first | assumption | exact Gr.refl _ | apply Gr.alloc | apply Gr.drewN | apply Gr.drew | apply Gr.iter | (refine Gr.setCell ?_ (by simp) _) | (refine Gr.trans ?_ (by assumption))))) (RdOps.gr (w := w) hl (by repeat (with_reducible first | assumption | exact Gr.refl _ | apply Gr.alloc | apply Gr.drewN | apply Gr.drew | apply Gr.iter | (refine Gr.setCell ?_ (by simp) _) | (refine Gr.trans ?_ (by assumption)))))).mono ?_; rw [HE.out]; rintro e w1 ⟨rfl, hg1⟩)
    go_ret
    exact ⟨ret_bool (by unfold canonL; rw [HE.out, h0']; rfl), (by repeat (with_reducible first | assumption | exact Gr.refl _ | apply Gr.alloc | apply Gr.drewN | apply Gr.drew | apply Gr.iter | (refine Gr.setCell ?_ (by simp) _) | (refine Gr.trans ?_ (by assumption))))⟩
set_option maxHeartbeats 2000000 in
theorem rsame_any (la lb : List Op) (va vb : Value) (w : World) (ha : RdOps w va la) (hb : RdOps w vb lb) :
    Calls Tryz.prog 74 #[va, vb] w fun e w' => e = .returned (.bool (decide (la = lb))) ∧ Gr w w' := by
  obtain ⟨aa, n, ca, rfl, hla, hma, hba, hna⟩ := ha.sl
  obtain ⟨ab, m, cb, rfl, hlb, hmb, hbb, hnb⟩ := hb.sl
  by_cases hlen : n = m
  · subst hlen
    go_enter Tryz.func74, Tryz.ntmps74
    go_wp2
    go_loopw [5] (fun i wr => ∃ k : Nat, k ≤ n ∧ i = .int .i64 k ∧ Gr w wr ∧ la.take k = lb.take k) (fun i _ => n - (intOf i).toNat)
    case atStart => exact ⟨0, Nat.zero_le _, rfl, Gr.refl _, rfl⟩
    case round =>
      obtain ⟨k, hk, rfl, hg, ht⟩ := hrel
      have Ht := Lib.hid ht; clear ht
      by_cases hlt : k < n
      · obtain ⟨blk, off, xk, xt, xa, xb, xv, xc, ats, sl, hx, rfl, hr, c0, c1, c2, c3, c4, c5, c6, s1, s2⟩ := (RdOps.gr ha hg).at_ k hlt
        obtain ⟨blk', off', yk, yt, ya, yb, yv, yc, bts, tl, hy, rfl, hr', d0, d1, d2, d3, d4, d5, d6, s1', s2'⟩ := (RdOps.gr hb hg).at_ k hlt
        have H := Lib.hid (And.intro hx hy); clear hx hy
        have hlt' : (k : Int) < n := by omega
        obtain ⟨sa, sc, hsl, -⟩ := RdList.slice hr
        subst hsl
        obtain ⟨sa', sc', hsl, -⟩ := RdList.slice hr'
        subst hsl
        obtain ⟨A, hA⟩ : ∃ b, decide ((⟨xk, xt, ⟨xa, xb, xv⟩, xc, ats⟩ : Op) = ⟨yk, yt, ⟨ya, yb, yv⟩, yc, bts⟩) = b := ⟨_, rfl⟩
        have HA := Lib.hid hA; clear hA
        cases A
        all_goals
          go_wp2
          (refine wp_region_gr (by kernel_rfl) (by kernel_rfl) ?_; (repeat (refine wpQuiet_step (fun K hK => ?_); go_simp; first | (refine hK _ ?_; clear hK K) | (refine ⟨_, fun _ _ => rfl, hK _ ?_⟩; clear hK K) | (apply Exists.intro; refine ⟨fun wq hq => ?_, hK _ ?_⟩; (first | exact ((rsameop_any _ _ _ _ _ _ _ ats _ _ _ _ _ _ _ bts wq (RdAttrs.gr (w := wr) hr hq) (RdAttrs.gr (w := wr) hr' hq)).mono fun e w' h => by rw [HA.out] at h; exact ⟨h.1, hq.trans h.2⟩) | (have q0 := hq.cell c0; have q1 := hq.cell c1; have q2 := hq.cell c2; have q3 := hq.cell c3; have q4 := hq.cell c4; have q5 := hq.cell c5; have q6 := hq.cell c6; have r0 := hq.cell d0; have r1 := hq.cell d1; have r2 := hq.cell d2; have r3 := hq.cell d3; have r4 := hq.cell d4; have r5 := hq.cell d5; have r6 := hq.cell d6; go_simp; rfl)); clear hK K))); refine wpQuiet_nil ?_)
          intro w3 hg3
          go_wp2
        · go_ret
          refine ⟨ret_bool ?_, (by repeat (with_reducible first | assumption | exact Gr.refl _ | apply Gr.alloc | apply Gr.drewN | apply Gr.drew | apply Gr.iter | (refine Gr.setCell ?_ (by simp) _) | (refine Gr.trans ?_ (by assumption))))⟩
          obtain ⟨hx, hy⟩ := H.out
          have h := HA.out
          simp only [decide_eq_false_iff_not] at h
          symm
          simp only [decide_eq_false_iff_not]
          intro e
          subst e
          exact h (Option.some.inj (hx.symm.trans hy))
        · go_roundw
          case rel =>
            obtain ⟨hx, hy⟩ := H.out
            refine ⟨k + 1, by omega, by go_num, (by repeat (with_reducible first | assumption | exact Gr.refl _ | apply Gr.alloc | apply Gr.drewN | apply Gr.drew | apply Gr.iter | (refine Gr.setCell ?_ (by simp) _) | (refine Gr.trans ?_ (by assumption)))), ?_⟩
            rw [List.take_add_one, List.take_add_one, Ht.out, hx, hy, of_decide_eq_true HA.out]
          case measure => simp [intOf]; omega
      · obtain rfl : k = n := by omega
        go_wp2
        go_ret
        refine ⟨ret_bool ?_, (by repeat (with_reducible first | assumption | exact Gr.refl _ | apply Gr.alloc | apply Gr.drewN | apply Gr.drew | apply Gr.iter | (refine Gr.setCell ?_ (by simp) _) | (refine Gr.trans ?_ (by assumption))))⟩
        have ht := Ht.out
        have e1 := hna.out
        have e2 := hnb.out
        rw [List.take_of_length_le (by omega), List.take_of_length_le (by omega)] at ht
        simp [ht]
  · have hlen' : ((n : Int) != m) = true := by simp; omega
    have hne : la ≠ lb := fun e => hlen (by rw [← hna.out, ← hnb.out, e])
    have HN := Lib.hid hne; clear hne
    go_enter Tryz.func74, Tryz.ntmps74
    go_wp2
    go_ret
    refine ⟨ret_bool ?_, (by repeat (with_reducible first | assumption | exact Gr.refl _ | apply Gr.alloc | apply Gr.drewN | apply Gr.drew | apply Gr.iter | (refine Gr.setCell ?_ (by simp) _) | (refine Gr.trans ?_ (by assumption))))⟩
    simp [HN.out]
end Ve
