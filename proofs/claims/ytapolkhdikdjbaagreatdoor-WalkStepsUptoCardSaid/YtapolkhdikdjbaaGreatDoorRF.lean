/- Walks: the reference's walker (length, Kind, Left); law07.w2, is; walk.Rest, inserts. -/
import Derived.Test.YtapolkhdikdjbaaGreatDoorRE
set_option linter.all false
namespace Ve
open Go Go.RowKit Go.Proofs

set_option maxHeartbeats 1000000 in
theorem len07_any (k : Int) (t : ByteArray) (va vb : Int) (vt : ByteArray) (c : Int) (sl : Value) (l : List Attr) (w : World) (hl : RdAttrs w sl l) (ht : szS t) (hk : k = 1 ∨ k = 2 ∨ k = 3 ∨ k = 4) :
    Calls Tryz.prog 97 #[.agg #[.int .i64 k, .string t, .int .i64 va, .int .i64 vb, .string vt, .int .i64 c, sl]] w fun e w' => e = .returned (.int .i64 (rlen ⟨k, t, ⟨va, vb, vt⟩, c, l⟩)) ∧ Gr w w' := by
  obtain ⟨a, cap, rfl, -, -, hb⟩ := hl.slice
  rcases hk with rfl | rfl | rfl | rfl
  · go_enter Tryz.func97, Tryz.ntmps97
    go_wp2_with (go_at_call 95; refine (rclen_any _ _ _ _ _ _ _ l _ (RdAttrs.gr hl (by repeat (with_reducible first | assumption | exact Gr.refl _ | apply Gr.alloc | apply Gr.drewN | apply Gr.drew | apply Gr.iter | (refine Gr.setCell ?_ (by simp) _) | (refine Gr.trans ?_ (by assumption))))) ht (.inl rfl)).mono ?_; rintro e w' ⟨rfl, hg⟩)
    go_ret
    exact ⟨rfl, (by repeat (with_reducible first | assumption | exact Gr.refl _ | apply Gr.alloc | apply Gr.drewN | apply Gr.drew | apply Gr.iter | (refine Gr.setCell ?_ (by simp) _) | (refine Gr.trans ?_ (by assumption))))⟩
  · go_enter Tryz.func97, Tryz.ntmps97
    go_wp2_with (go_at_call 95; refine (rclen_any _ _ _ _ _ _ _ l _ (RdAttrs.gr hl (by repeat (with_reducible first | assumption | exact Gr.refl _ | apply Gr.alloc | apply Gr.drewN | apply Gr.drew | apply Gr.iter | (refine Gr.setCell ?_ (by simp) _) | (refine Gr.trans ?_ (by assumption))))) ht (.inr rfl)).mono ?_; rintro e w' ⟨rfl, hg⟩)
    go_ret
    exact ⟨rfl, (by repeat (with_reducible first | assumption | exact Gr.refl _ | apply Gr.alloc | apply Gr.drewN | apply Gr.drew | apply Gr.iter | (refine Gr.setCell ?_ (by simp) _) | (refine Gr.trans ?_ (by assumption))))⟩
  · go_enter Tryz.func97, Tryz.ntmps97
    go_wp2
    go_ret
    exact ⟨ret_int (by simp [rlen]), (by repeat (with_reducible first | assumption | exact Gr.refl _ | apply Gr.alloc | apply Gr.drewN | apply Gr.drew | apply Gr.iter | (refine Gr.setCell ?_ (by simp) _) | (refine Gr.trans ?_ (by assumption))))⟩
  · go_enter Tryz.func97, Tryz.ntmps97
    go_wp2
    go_ret
    exact ⟨ret_int (by simp [rlen]), (by repeat (with_reducible first | assumption | exact Gr.refl _ | apply Gr.alloc | apply Gr.drewN | apply Gr.drew | apply Gr.iter | (refine Gr.setCell ?_ (by simp) _) | (refine Gr.trans ?_ (by assumption))))⟩
set_option maxHeartbeats 1000000 in
theorem w2_any (k : Int) (t : ByteArray) (va vb : Int) (vt : ByteArray) (c : Int) (sl : Value) (l : List Attr) (w : World) (hl : RdAttrs w sl l) (ht : szS t) :
    Calls Tryz.prog 23 #[.agg #[.int .i64 k, .string t, .int .i64 va, .int .i64 vb, .string vt, .int .i64 c, sl]] w fun e w' => e = .returned (.int .i64 (rlen ⟨k, t, ⟨va, vb, vt⟩, c, l⟩)) ∧ Gr w w' := by
  obtain ⟨a, cap, rfl, -, -, hb⟩ := hl.slice
  by_cases hk : k = 1 ∨ k = 2
  · rcases hk with rfl | rfl
    · go_enter Tryz.func23, Tryz.ntmps23
      go_wp2_with (go_at_call 95; refine (rclen_any _ _ _ _ _ _ _ l _ (RdAttrs.gr hl (by repeat (with_reducible first | assumption | exact Gr.refl _ | apply Gr.alloc | apply Gr.drewN | apply Gr.drew | apply Gr.iter | (refine Gr.setCell ?_ (by simp) _) | (refine Gr.trans ?_ (by assumption))))) ht (.inl rfl)).mono ?_; rintro e w' ⟨rfl, hg⟩)
      go_ret
      exact ⟨rfl, (by repeat (with_reducible first | assumption | exact Gr.refl _ | apply Gr.alloc | apply Gr.drewN | apply Gr.drew | apply Gr.iter | (refine Gr.setCell ?_ (by simp) _) | (refine Gr.trans ?_ (by assumption))))⟩
    · go_enter Tryz.func23, Tryz.ntmps23
      go_wp2_with (go_at_call 95; refine (rclen_any _ _ _ _ _ _ _ l _ (RdAttrs.gr hl (by repeat (with_reducible first | assumption | exact Gr.refl _ | apply Gr.alloc | apply Gr.drewN | apply Gr.drew | apply Gr.iter | (refine Gr.setCell ?_ (by simp) _) | (refine Gr.trans ?_ (by assumption))))) ht (.inr rfl)).mono ?_; rintro e w' ⟨rfl, hg⟩)
      go_ret
      exact ⟨rfl, (by repeat (with_reducible first | assumption | exact Gr.refl _ | apply Gr.alloc | apply Gr.drewN | apply Gr.drew | apply Gr.iter | (refine Gr.setCell ?_ (by simp) _) | (refine Gr.trans ?_ (by assumption))))⟩
  · have k1 : (k == 1) = false := by simp; omega
    have k2 : (k == 2) = false := by simp; omega
    go_enter Tryz.func23, Tryz.ntmps23
    go_wp2
    go_ret
    refine ⟨ret_int ?_, (by repeat (with_reducible first | assumption | exact Gr.refl _ | apply Gr.alloc | apply Gr.drewN | apply Gr.drew | apply Gr.iter | (refine Gr.setCell ?_ (by simp) _) | (refine Gr.trans ?_ (by assumption))))⟩
    simp only [rlen]; rw [if_neg (by omega), if_neg (by omega)]
/-- The reference's walker. -/
def w7T (t : TypeId) : Bool := t == 33
def Wk7 (w : World) (g : Nat) (l : List Op) : Prop := ∃ sl, Blk w g 33 #[sl] ∧ RdOps w sl l
def kindO : List Op → Int
  | [] => 3
  | o :: _ => o.kind
def leftO : List Op → Int
  | [] => 1099511627776
  | o :: _ => rlen o
theorem Wk7.gr {w w' : World} {g : Nat} {l : List Op} (h : Wk7 w g l) (k : Gr w w') : Wk7 w' g l := by
  obtain ⟨sl, hB, hr⟩ := h
  exact ⟨sl, hB.gr k, RdOps.gr hr k⟩
set_option maxHeartbeats 1000000 in
theorem kind07_any (g : Nat) (l : List Op) (w : World) (hW : Wk7 w g l) :
    Calls Tryz.prog 27 #[.pointer (some ⟨g, 0, none⟩)] w fun e w' => e = .returned (.int .i64 (kindO l)) ∧ Gr w w' := by
  obtain ⟨sl, hB, hr⟩ := hW
  obtain ⟨a, n, cap, rfl, h1, h2, h3, hn⟩ := hr.sl
  have b0 := hB.cell
  cases l with
  | nil =>
    obtain rfl : n = 0 := hn.out.symm
    go_enter Tryz.func27, Tryz.ntmps27
    go_wp2
    go_ret
    exact ⟨rfl, (by repeat (with_reducible first | assumption | exact Gr.refl _ | apply Gr.alloc | apply Gr.drewN | apply Gr.drew | apply Gr.iter | (refine Gr.setCell ?_ (by simp) _) | (refine Gr.trans ?_ (by assumption))))⟩
  | cons o r =>
    have hn1 : n = r.length + 1 := hn.out.symm
    obtain ⟨b, off, xk, xt, xa, xb, xv, xc, ats, sl', hx, rfl, hra, c0, c1, c2, c3, c4, c5, c6, s1, s2⟩ := hr.at_ 0 (by omega)
    simp only [List.getElem?_cons_zero, Option.some.injEq] at hx
    subst hx
    have hn2 : (n == 0) = false := by simp; omega
    have hn3 : 0 < n := by omega
    simp at c0
    go_enter Tryz.func27, Tryz.ntmps27
    go_wp2
    go_ret
    exact ⟨rfl, (by repeat (with_reducible first | assumption | exact Gr.refl _ | apply Gr.alloc | apply Gr.drewN | apply Gr.drew | apply Gr.iter | (refine Gr.setCell ?_ (by simp) _) | (refine Gr.trans ?_ (by assumption))))⟩
set_option maxHeartbeats 1000000 in
theorem left07_any (g : Nat) (l : List Op) (w : World) (hW : Wk7 w g l) (hok : ∀ o ∈ l, checkOp o = 0) :
    Calls Tryz.prog 29 #[.pointer (some ⟨g, 0, none⟩)] w fun e w' => e = .returned (.int .i64 (leftO l)) ∧ Gr w w' := by
  obtain ⟨sl, hB, hr⟩ := hW
  obtain ⟨a, n, cap, rfl, h1, h2, h3, hn⟩ := hr.sl
  have b0 := hB.cell
  cases l with
  | nil =>
    obtain rfl : n = 0 := hn.out.symm
    go_enter Tryz.func29, Tryz.ntmps29
    go_wp2
    go_ret
    exact ⟨rfl, (by repeat (with_reducible first | assumption | exact Gr.refl _ | apply Gr.alloc | apply Gr.drewN | apply Gr.drew | apply Gr.iter | (refine Gr.setCell ?_ (by simp) _) | (refine Gr.trans ?_ (by assumption))))⟩
  | cons o r =>
    have hn1 : n = r.length + 1 := hn.out.symm
    obtain ⟨b, off, xk, xt, xa, xb, xv, xc, ats, sl', hx, rfl, hra, c0, c1, c2, c3, c4, c5, c6, s1, s2⟩ := hr.at_ 0 (by omega)
    simp only [List.getElem?_cons_zero, Option.some.injEq] at hx
    subst hx
    have HK := Lib.hid (ok_kind (hok _ List.mem_cons_self))
    have hn2 : (n == 0) = false := by simp; omega
    have hn3 : 0 < n := by omega
    obtain ⟨sa, sn, sc, rfl, -⟩ := hra.sl
    simp at c0 c1 c2 c3 c4 c5 c6
    clear hok hn hn1
    go_enter Tryz.func29, Tryz.ntmps29
    go_wp2_with (go_at_call 97; refine (len07_any _ _ _ _ _ _ _ ats _ (RdAttrs.gr hra (by repeat (with_reducible first | assumption | exact Gr.refl _ | apply Gr.alloc | apply Gr.drewN | apply Gr.drew | apply Gr.iter | (refine Gr.setCell ?_ (by simp) _) | (refine Gr.trans ?_ (by assumption))))) s1 HK.out).mono ?_; rintro e w2 ⟨rfl, hg2⟩)
    go_ret
    exact ⟨rfl, (by repeat (with_reducible first | assumption | exact Gr.refl _ | apply Gr.alloc | apply Gr.drewN | apply Gr.drew | apply Gr.iter | (refine Gr.setCell ?_ (by simp) _) | (refine Gr.trans ?_ (by assumption))))⟩
end Ve
