/- Walks of the reference of layer 14. -/
import Derived.Test.YtmdakddgeagnmaaDoorL2
set_option linter.all false
namespace Ve
open Go Go.RowKit Go.Proofs

/-- What vellumref14.carried answers. -/
def carR (place : Int) (behind : Bool) (p t : Int) : List Op → Int
  | [] => t + max 0 (place - p)
  | o :: r => if o.kind = 3 then carR place behind (p + rlen o) (t + max 0 (min (place - p) (rlen o))) r
    else if o.kind = 4 then carR place behind (p + rlen o) t r
    else carR place behind p (if p < place ∨ (p = place ∧ behind = true) then t + rlen o else t) r
theorem ok_len {o : Op} (ho : checkOp o = 0) : 0 ≤ rlen o := by
  rw [rlen_ok ho]
  have h2 := op_toPiece ho
  exact len_nn (p := toPiece o) ⟨by rw [h2]; exact ho, by rw [h2]⟩
theorem piece1 {o : Op} (ho : checkOp o = 0) (k : o.kind = 1) : toPiece o = .ins o.attrs o.text (rlen o) := by
  have hl := rlen_ok ho
  have e : toPiece o = .ins o.attrs o.text (Lib.runeCount o.text) := by simp [toPiece, k]
  rw [e] at hl ⊢
  rw [hl]; rfl
theorem piece2 {o : Op} (ho : checkOp o = 0) (k : o.kind = 2) : toPiece o = .emb o.attrs o.text o.val ∧ rlen o = 1 := by
  have hl := rlen_ok ho
  have e : toPiece o = .emb o.attrs o.text o.val := by simp [toPiece, k]
  rw [e] at hl ⊢
  exact ⟨rfl, hl⟩
theorem piece3 {o : Op} (ho : checkOp o = 0) (k : o.kind = 3) : toPiece o = .ret o.attrs (rlen o) := by
  have hl := rlen_ok ho
  have e : toPiece o = .ret o.attrs o.count := by simp [toPiece, k]
  rw [e] at hl ⊢
  rw [hl]; rfl
theorem piece4 {o : Op} (ho : checkOp o = 0) (k : o.kind = 4) : toPiece o = .del (rlen o) := by
  have hl := rlen_ok ho
  have e : toPiece o = .del o.count := by simp [toPiece, k]
  rw [e] at hl ⊢
  rw [hl]; rfl
theorem carR_P {place : Int} {behind : Bool} {l : List Op} : ∀ {p t q : Int}, (∀ o ∈ l, checkOp o = 0) → t = q + max 0 (place - p) → carR place behind p q l = carP place behind p t (l.map toPiece) := by
  induction l with
  | nil => intro p t q _ h; exact h.symm
  | cons o l ih =>
    intro p t q hok h
    have ho := hok o (by simp)
    have hnn := ok_len ho
    have hr := fun {p t q} => @ih p t q (fun x hx => hok x (by simp [hx]))
    simp only [carR, List.map_cons]
    rcases ok_kind ho with k | k | k | k
    · rw [piece1 ho k, if_neg (by omega), if_neg (by omega)]
      simp only [carP]
      apply hr
      split <;> omega
    · rw [(piece2 ho k).1, (piece2 ho k).2, if_neg (by omega), if_neg (by omega)]
      simp only [carP]
      apply hr
      split <;> omega
    · rw [piece3 ho k, if_pos k]
      simp only [carP]
      apply hr
      omega
    · rw [piece4 ho k, if_neg (by omega), if_pos k]
      simp only [carP]
      apply hr
      omega
def finL (n : Int) : Int × Int := if 1099511627776 < n then (0, 11) else (n, 0)
theorem finL_ok {n : Int} (h : n ≤ 1099511627776) : finL n = (n, 0) := if_neg (by omega)
/-- What the loop of vellumref14.Back answers. -/
def backR (place q p : Int) : List Op → Int × Int
  | [] => finL (p + place - q)
  | o :: r => if o.kind = 3 then (if place < q + rlen o then (p + place - q, 0) else backR place (q + rlen o) (p + rlen o) r)
    else if o.kind = 4 then backR place q (p + rlen o) r
    else if place < q + rlen o then (p, 0) else backR place (q + rlen o) p r
theorem backR_P {place : Int} {l : List Op} : ∀ {q p : Int}, (∀ o ∈ l, checkOp o = 0) → 0 ≤ sumB l → p + sumB l ≤ 1099511627776 → backR place q p l = finL (backP place p q (l.map toPiece)) := by
  induction l with
  | nil => intro q p _ _ _; rfl
  | cons o l ih =>
    intro q p hok h0 hb
    have ho := hok o (by simp)
    have hok' : ∀ x ∈ l, checkOp x = 0 := fun x hx => hok x (by simp [hx])
    have hnn := ok_len ho
    have hs : 0 ≤ sumB l := by
      rw [← bsum_map hok']
      exact bsum_nn (PsOk.of_ops hok').nn
    simp only [sumB, baseO] at h0 hb
    simp only [backR, List.map_cons]
    rcases ok_kind ho with k | k | k | k
    · rw [if_neg (by omega)] at hb h0
      rw [piece1 ho k, if_neg (by omega), if_neg (by omega)]
      simp only [backP]
      by_cases c : place < q + rlen o
      · rw [if_pos c, if_pos c, finL_ok (by omega)]
      · rw [if_neg c, if_neg c]; exact ih hok' hs (by omega)
    · rw [if_neg (by omega)] at hb h0
      rw [(piece2 ho k).1, (piece2 ho k).2, if_neg (by omega), if_neg (by omega)]
      simp only [backP]
      by_cases c : place < q + 1
      · rw [if_pos c, if_pos c, finL_ok (by omega)]
      · rw [if_neg c, if_neg c]; exact ih hok' hs (by omega)
    · rw [if_pos (.inl k)] at hb h0
      rw [piece3 ho k, if_pos k]
      simp only [backP]
      by_cases c : place < q + rlen o
      · rw [if_pos c, if_pos c, finL_ok (by omega)]
      · rw [if_neg c, if_neg c]; exact ih hok' hs (by omega)
    · rw [if_pos (.inr k)] at hb h0
      rw [piece4 ho k, if_neg (by omega), if_pos k]
      simp only [backP]
      exact ih hok' hs (by omega)
theorem sumB_nn {l : List Op} (h : ∀ o ∈ l, checkOp o = 0) : 0 ≤ sumB l := by
  rw [← bsum_map h]
  exact bsum_nn (PsOk.of_ops h).nn
theorem sumR_nn {l : List Op} (h : ∀ o ∈ l, checkOp o = 0) : 0 ≤ sumR l := by
  rw [← rsum_map h]
  exact rsum_nn (PsOk.of_ops h).nn
theorem ops_drop {l : List Op} (h : ∀ o ∈ l, checkOp o = 0) (k : Nat) : ∀ o ∈ l.drop k, checkOp o = 0 := fun o ho => h o (List.mem_of_mem_drop ho)
set_option maxHeartbeats 8000000 in
theorem rcarried_any (l : List Op) (v : Value) (place : Int) (behind : Bool) (w : World) (hl : RdOps w v l) (hok : ∀ o ∈ l, checkOp o = 0) (hp0 : 0 ≤ place) (hp1 : place ≤ 1099511627776)
    (hB : sumB l ≤ 1099511627776) (hR : sumR l ≤ 1099511627776) :
    Calls Tryd.prog 35 #[v, .int .i64 place, .bool behind] w fun e w' => e = .returned (.int .i64 (carR place behind 0 0 l)) ∧ Gr w w' := by
  obtain ⟨a, n, cap, rfl, hcap, hm, hb, hn⟩ := hl.sl
  go_enter Tryd.func35, Tryd.ntmps35
  go_wp2
  go_loopw [7, 8, 9] (fun x y i wr => ∃ (k : Nat) (p t : Int), k ≤ n ∧ i = .int .i64 k ∧ x = .int .i64 p ∧ y = .int .i64 t ∧ 0 ≤ p ∧ p + sumB (l.drop k) ≤ 1099511627776 ∧ 0 ≤ t ∧ t + sumR (l.drop k) ≤ 1099511627776 ∧ Gr w wr ∧ carR place behind p t (l.drop k) = carR place behind 0 0 l) (fun _ _ i _ => n - (intOf i).toNat)
  case atStart => exact ⟨0, 0, 0, Nat.zero_le _, rfl, rfl, rfl, by omega, by simpa using hB, by omega, by simpa using hR, Gr.refl _, rfl⟩
  case round =>
    obtain ⟨k, p, t, hk, rfl, rfl, rfl, hp, hpb, ht, htr, hg, hc⟩ := hrel
    have Hc := Lib.hid hc; clear hc
    by_cases hlt : k < n
    · obtain ⟨blk, off, xk, xt, xa, xb, xv, xc, ats, sl, hx, rfl, hr, c0, c1, c2, c3, c4, c5, c6, s1, s2⟩ := (RdOps.gr hl hg).at_ k hlt
      have hck := hok _ (List.mem_of_getElem? hx)
      have hkind := ok_kind hck
      simp only at hkind
      have hbn := sumB_nn (ops_drop hok (k + 1))
      have hrn := sumR_nn (ops_drop hok (k + 1))
      rw [drop_cons hx] at hpb htr
      simp only [sumB, sumR] at hpb htr
      obtain ⟨N0, N1⟩ := rlen_bound hck s1
      have HQ := (congrArg (carR place behind p t) (drop_cons hx)).symm.trans Hc.out
      have Hx := Lib.hid hx; clear hx hck
      have hlt' : (k : Int) < n := by omega
      obtain ⟨N, hN⟩ : ∃ N, rlen ⟨xk, xt, ⟨xa, xb, xv⟩, xc, ats⟩ = N := ⟨_, rfl⟩
      simp only [carR, baseO, resO] at HQ hpb htr
      rw [hN] at N0 N1 hpb htr HQ
      have HN := Lib.hid hN; clear hN
      obtain ⟨sa, sc, hsl, -⟩ := RdList.slice hr
      subst hsl
      rcases hkind with rfl | rfl | rfl | rfl
      · rw [if_neg (by omega), if_neg (by omega)] at HQ
        simp at hpb htr
        by_cases h1 : p < place
        · rw [if_pos (.inl h1)] at HQ
          have HC := Lib.hid HQ; clear HQ
          go_wp2_with (go_at_call 29; refine (rlen_any _ _ _ _ _ _ _ ats _ (RdAttrs.gr (w := wr) hr (by repeat (with_reducible first | assumption | exact Gr.refl _ | apply Gr.alloc | apply Gr.drewN | apply Gr.drew | apply Gr.iter | (refine Gr.setCell ?_ (by simp) _) | (refine Gr.trans ?_ (by assumption))))) s1).mono ?_; rw [HN.out]; rintro e w2 ⟨rfl, hg2⟩; have d0 := hg2.cell c0; have z0 := cell_lt d0)
          go_roundw
          case rel => exact ⟨k + 1, p, t + N, by omega, by go_num, rfl, rfl, by omega, by omega, by omega, by omega, (by repeat (with_reducible first | assumption | exact Gr.refl _ | apply Gr.alloc | apply Gr.drewN | apply Gr.drew | apply Gr.iter | (refine Gr.setCell ?_ (by simp) _) | (refine Gr.trans ?_ (by assumption)))), HC.out⟩
          case measure => simp [intOf]; omega
        · by_cases h2 : p = place ∧ behind = true
          · rw [if_pos (.inr h2)] at HQ
            have HC := Lib.hid HQ; clear HQ
            obtain ⟨h2, h3⟩ := h2
            have h4 : (p == place) = true := by simpa using h2
            have H2 := Lib.hid h2; clear h2
            subst h3
            go_wp2_with (go_at_call 29; refine (rlen_any _ _ _ _ _ _ _ ats _ (RdAttrs.gr (w := wr) hr (by repeat (with_reducible first | assumption | exact Gr.refl _ | apply Gr.alloc | apply Gr.drewN | apply Gr.drew | apply Gr.iter | (refine Gr.setCell ?_ (by simp) _) | (refine Gr.trans ?_ (by assumption))))) s1).mono ?_; rw [HN.out]; rintro e w2 ⟨rfl, hg2⟩; have d0 := hg2.cell c0; have z0 := cell_lt d0)
            go_roundw
            case rel => exact ⟨k + 1, p, t + N, by omega, by go_num, rfl, rfl, by omega, by omega, by omega, by omega, (by repeat (with_reducible first | assumption | exact Gr.refl _ | apply Gr.alloc | apply Gr.drewN | apply Gr.drew | apply Gr.iter | (refine Gr.setCell ?_ (by simp) _) | (refine Gr.trans ?_ (by assumption)))), HC.out⟩
            case measure => simp [intOf]; omega
          · rw [if_neg (fun h => h.elim h1 h2)] at HQ
            have HC := Lib.hid HQ; clear HQ
            by_cases h3 : p = place
            · have h4 : (p == place) = true := by simpa using h3
              have h5 : behind = false := by cases behind with | false => rfl | true => exact absurd ⟨h3, rfl⟩ h2
              have H3 := Lib.hid h3; clear h3 h2
              subst h5
              go_wp2_with (go_at_call 29; refine (rlen_any _ _ _ _ _ _ _ ats _ (RdAttrs.gr (w := wr) hr (by repeat (with_reducible first | assumption | exact Gr.refl _ | apply Gr.alloc | apply Gr.drewN | apply Gr.drew | apply Gr.iter | (refine Gr.setCell ?_ (by simp) _) | (refine Gr.trans ?_ (by assumption))))) s1).mono ?_; rw [HN.out]; rintro e w2 ⟨rfl, hg2⟩; have d0 := hg2.cell c0; have z0 := cell_lt d0)
              go_roundw
              case rel => exact ⟨k + 1, p, t, by omega, by go_num, rfl, rfl, by omega, by omega, by omega, by omega, (by repeat (with_reducible first | assumption | exact Gr.refl _ | apply Gr.alloc | apply Gr.drewN | apply Gr.drew | apply Gr.iter | (refine Gr.setCell ?_ (by simp) _) | (refine Gr.trans ?_ (by assumption)))), HC.out⟩
              case measure => simp [intOf]; omega
            · have h4 : (p == place) = false := by simpa using h3
              clear h2 h3
              go_wp2_with (go_at_call 29; refine (rlen_any _ _ _ _ _ _ _ ats _ (RdAttrs.gr (w := wr) hr (by repeat (with_reducible first | assumption | exact Gr.refl _ | apply Gr.alloc | apply Gr.drewN | apply Gr.drew | apply Gr.iter | (refine Gr.setCell ?_ (by simp) _) | (refine Gr.trans ?_ (by assumption))))) s1).mono ?_; rw [HN.out]; rintro e w2 ⟨rfl, hg2⟩; have d0 := hg2.cell c0; have z0 := cell_lt d0)
              go_roundw
              case rel => exact ⟨k + 1, p, t, by omega, by go_num, rfl, rfl, by omega, by omega, by omega, by omega, (by repeat (with_reducible first | assumption | exact Gr.refl _ | apply Gr.alloc | apply Gr.drewN | apply Gr.drew | apply Gr.iter | (refine Gr.setCell ?_ (by simp) _) | (refine Gr.trans ?_ (by assumption)))), HC.out⟩
              case measure => simp [intOf]; omega
      · rw [if_neg (by omega), if_neg (by omega)] at HQ
        simp at hpb htr
        by_cases h1 : p < place
        · rw [if_pos (.inl h1)] at HQ
          have HC := Lib.hid HQ; clear HQ
          go_wp2_with (go_at_call 29; refine (rlen_any _ _ _ _ _ _ _ ats _ (RdAttrs.gr (w := wr) hr (by repeat (with_reducible first | assumption | exact Gr.refl _ | apply Gr.alloc | apply Gr.drewN | apply Gr.drew | apply Gr.iter | (refine Gr.setCell ?_ (by simp) _) | (refine Gr.trans ?_ (by assumption))))) s1).mono ?_; rw [HN.out]; rintro e w2 ⟨rfl, hg2⟩; have d0 := hg2.cell c0; have z0 := cell_lt d0)
          go_roundw
          case rel => exact ⟨k + 1, p, t + N, by omega, by go_num, rfl, rfl, by omega, by omega, by omega, by omega, (by repeat (with_reducible first | assumption | exact Gr.refl _ | apply Gr.alloc | apply Gr.drewN | apply Gr.drew | apply Gr.iter | (refine Gr.setCell ?_ (by simp) _) | (refine Gr.trans ?_ (by assumption)))), HC.out⟩
          case measure => simp [intOf]; omega
        · by_cases h2 : p = place ∧ behind = true
          · rw [if_pos (.inr h2)] at HQ
            have HC := Lib.hid HQ; clear HQ
            obtain ⟨h2, h3⟩ := h2
            have h4 : (p == place) = true := by simpa using h2
            have H2 := Lib.hid h2; clear h2
            subst h3
            go_wp2_with (go_at_call 29; refine (rlen_any _ _ _ _ _ _ _ ats _ (RdAttrs.gr (w := wr) hr (by repeat (with_reducible first | assumption | exact Gr.refl _ | apply Gr.alloc | apply Gr.drewN | apply Gr.drew | apply Gr.iter | (refine Gr.setCell ?_ (by simp) _) | (refine Gr.trans ?_ (by assumption))))) s1).mono ?_; rw [HN.out]; rintro e w2 ⟨rfl, hg2⟩; have d0 := hg2.cell c0; have z0 := cell_lt d0)
            go_roundw
            case rel => exact ⟨k + 1, p, t + N, by omega, by go_num, rfl, rfl, by omega, by omega, by omega, by omega, (by repeat (with_reducible first | assumption | exact Gr.refl _ | apply Gr.alloc | apply Gr.drewN | apply Gr.drew | apply Gr.iter | (refine Gr.setCell ?_ (by simp) _) | (refine Gr.trans ?_ (by assumption)))), HC.out⟩
            case measure => simp [intOf]; omega
          · rw [if_neg (fun h => h.elim h1 h2)] at HQ
            have HC := Lib.hid HQ; clear HQ
            by_cases h3 : p = place
            · have h4 : (p == place) = true := by simpa using h3
              have h5 : behind = false := by cases behind with | false => rfl | true => exact absurd ⟨h3, rfl⟩ h2
              have H3 := Lib.hid h3; clear h3 h2
              subst h5
              go_wp2_with (go_at_call 29; refine (rlen_any _ _ _ _ _ _ _ ats _ (RdAttrs.gr (w := wr) hr (by repeat (with_reducible first | assumption | exact Gr.refl _ | apply Gr.alloc | apply Gr.drewN | apply Gr.drew | apply Gr.iter | (refine Gr.setCell ?_ (by simp) _) | (refine Gr.trans ?_ (by assumption))))) s1).mono ?_; rw [HN.out]; rintro e w2 ⟨rfl, hg2⟩; have d0 := hg2.cell c0; have z0 := cell_lt d0)
              go_roundw
              case rel => exact ⟨k + 1, p, t, by omega, by go_num, rfl, rfl, by omega, by omega, by omega, by omega, (by repeat (with_reducible first | assumption | exact Gr.refl _ | apply Gr.alloc | apply Gr.drewN | apply Gr.drew | apply Gr.iter | (refine Gr.setCell ?_ (by simp) _) | (refine Gr.trans ?_ (by assumption)))), HC.out⟩
              case measure => simp [intOf]; omega
            · have h4 : (p == place) = false := by simpa using h3
              clear h2 h3
              go_wp2_with (go_at_call 29; refine (rlen_any _ _ _ _ _ _ _ ats _ (RdAttrs.gr (w := wr) hr (by repeat (with_reducible first | assumption | exact Gr.refl _ | apply Gr.alloc | apply Gr.drewN | apply Gr.drew | apply Gr.iter | (refine Gr.setCell ?_ (by simp) _) | (refine Gr.trans ?_ (by assumption))))) s1).mono ?_; rw [HN.out]; rintro e w2 ⟨rfl, hg2⟩; have d0 := hg2.cell c0; have z0 := cell_lt d0)
              go_roundw
              case rel => exact ⟨k + 1, p, t, by omega, by go_num, rfl, rfl, by omega, by omega, by omega, by omega, (by repeat (with_reducible first | assumption | exact Gr.refl _ | apply Gr.alloc | apply Gr.drewN | apply Gr.drew | apply Gr.iter | (refine Gr.setCell ?_ (by simp) _) | (refine Gr.trans ?_ (by assumption)))), HC.out⟩
              case measure => simp [intOf]; omega
      · rw [if_pos rfl] at HQ
        simp at hpb htr
        obtain ⟨M, hM⟩ : ∃ M, max 0 (min (place - p) N) = M := ⟨_, rfl⟩
        have hM0 : 0 ≤ M ∧ M ≤ N := by omega
        rw [hM] at HQ
        have HM := Lib.hid hM; clear hM
        have HC := Lib.hid HQ; clear HQ
        go_wp2_with (go_at_call 29; refine (rlen_any _ _ _ _ _ _ _ ats _ (RdAttrs.gr (w := wr) hr (by repeat (with_reducible first | assumption | exact Gr.refl _ | apply Gr.alloc | apply Gr.drewN | apply Gr.drew | apply Gr.iter | (refine Gr.setCell ?_ (by simp) _) | (refine Gr.trans ?_ (by assumption))))) s1).mono ?_; rw [HN.out]; rintro e w2 ⟨rfl, hg2⟩; have d0 := hg2.cell c0; have z0 := cell_lt d0)
        go_roundw
        case rel => exact ⟨k + 1, p + N, t + M, by omega, by go_num, rfl, by rw [← HM.out], by omega, by omega, by omega, by omega, (by repeat (with_reducible first | assumption | exact Gr.refl _ | apply Gr.alloc | apply Gr.drewN | apply Gr.drew | apply Gr.iter | (refine Gr.setCell ?_ (by simp) _) | (refine Gr.trans ?_ (by assumption)))), HC.out⟩
        case measure => simp [intOf]; omega
      · rw [if_neg (by omega), if_pos rfl] at HQ
        simp at hpb htr
        have HC := Lib.hid HQ; clear HQ
        go_wp2_with (go_at_call 29; refine (rlen_any _ _ _ _ _ _ _ ats _ (RdAttrs.gr (w := wr) hr (by repeat (with_reducible first | assumption | exact Gr.refl _ | apply Gr.alloc | apply Gr.drewN | apply Gr.drew | apply Gr.iter | (refine Gr.setCell ?_ (by simp) _) | (refine Gr.trans ?_ (by assumption))))) s1).mono ?_; rw [HN.out]; rintro e w2 ⟨rfl, hg2⟩; have d0 := hg2.cell c0; have z0 := cell_lt d0)
        go_roundw
        case rel => exact ⟨k + 1, p + N, t, by omega, by go_num, rfl, rfl, by omega, by omega, by omega, by omega, (by repeat (with_reducible first | assumption | exact Gr.refl _ | apply Gr.alloc | apply Gr.drewN | apply Gr.drew | apply Gr.iter | (refine Gr.setCell ?_ (by simp) _) | (refine Gr.trans ?_ (by assumption)))), HC.out⟩
        case measure => simp [intOf]; omega
    · obtain rfl : k = n := by omega
      have hl0 : l.drop k = [] := List.drop_eq_nil_of_le (by rw [hn.out]; exact Nat.le_refl _)
      obtain ⟨M, hM⟩ : ∃ M, max 0 (place - p) = M := ⟨_, rfl⟩
      have hM0 : 0 ≤ M ∧ M ≤ 1099511627776 := by omega
      have hf : carR place behind 0 0 l = t + M := by rw [← Hc.out, hl0, ← hM]; rfl
      rw [hl0] at hpb htr
      simp only [sumB, sumR] at hpb htr
      have HF := Lib.hid hf; clear hf hl0
      have HM := Lib.hid hM; clear hM
      go_wp2
      go_ret
      exact ⟨ret_int (by rw [HF.out, ← HM.out]), (by repeat (with_reducible first | assumption | exact Gr.refl _ | apply Gr.alloc | apply Gr.drewN | apply Gr.drew | apply Gr.iter | (refine Gr.setCell ?_ (by simp) _) | (refine Gr.trans ?_ (by assumption))))⟩
end Ve
