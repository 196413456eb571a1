/- Walks: places.back, Place, Range, Back. -/
import Derived.Test.YtmdakddgeagnmaaDoorL1
set_option linter.all false
namespace Ve
open Go Go.RowKit Go.Proofs

/-- What places.back answers. -/
def backP (place p q : Int) : List Piece → Int
  | [] => p + place - q
  | .ret _ n :: r => if place < q + n then p + place - q else backP place (p + n) (q + n) r
  | .del n :: r => backP place (p + n) q r
  | .ins _ _ n :: r => if place < q + n then p else backP place p (q + n) r
  | .emb _ _ _ :: r => if place < q + 1 then p else backP place p (q + 1) r
set_option maxHeartbeats 4000000 in
theorem back_any {ea : Nat → Addr} (ps : List Piece) (v : Value) (place : Int) (w : World) (hE : Env ea w) (hl : DeltaR w v ps) (hok : PsOk ps) (hp0 : 0 ≤ place) (hp1 : place ≤ 1099511627776)
    (hb : bsum ps ≤ 1099511627776) (hr : rsum ps ≤ 1099511627776) :
    Calls Tryd.prog 37 #[v, .int .i64 place] w fun e w' => e = .returned (.int .i64 (backP place 0 0 ps)) ∧ Gr w w' := by
  obtain ⟨g, sl, rfl, hB, hrd⟩ := hl
  have hb := Lib.hid hb
  have hr := Lib.hid hr
  have hlen := hrd.slice
  obtain ⟨-, -, -, -, -, hlen⟩ := hlen
  go_enter Tryd.func37, Tryd.ntmps37
  go_wp2_with (go_at_call 51; refine (dpieces_any ps _ _ (hE.gr (by repeat (with_reducible first | assumption | exact Gr.refl _ | apply Gr.alloc | apply Gr.drewN | apply Gr.drew | apply Gr.iter | (refine Gr.setCell ?_ (by simp) _) | (refine Gr.trans ?_ (by assumption))))) (DeltaR.gr (w := w) ⟨g, sl, rfl, hB, hrd⟩ (by repeat (with_reducible first | assumption | exact Gr.refl _ | apply Gr.alloc | apply Gr.drewN | apply Gr.drew | apply Gr.iter | (refine Gr.setCell ?_ (by simp) _) | (refine Gr.trans ?_ (by assumption))))) hok).mono ?_; rintro e w1 ⟨v1, rfl, ho1, hg1⟩; have hR := OwnL.rd ho1 hlen; obtain ⟨a1, n, c1, rfl, hn1, hn2, hn3, hn⟩ := hR.sl)
  go_loopw [5, 6, 13] (fun x y i wr => ∃ (k : Nat) (p q : Int), k ≤ n ∧ i = .int .i64 k ∧ x = .int .i64 p ∧ y = .int .i64 q ∧ 0 ≤ p ∧ p + bsum (ps.drop k) ≤ 1099511627776 ∧ 0 ≤ q ∧ q + rsum (ps.drop k) ≤ 1099511627776 ∧ Gr w1 wr ∧ backP place p q (ps.drop k) = backP place 0 0 ps) (fun _ _ i _ => n - (intOf i).toNat)
  case atStart => exact ⟨0, 0, 0, Nat.zero_le _, rfl, rfl, rfl, by omega, by have := hb.out; simpa using this, by omega, by have := hr.out; simpa using this, Gr.refl _, rfl⟩
  case round =>
    obtain ⟨k, p, q, hk, rfl, rfl, rfl, hp, hpb, hq0, hqr, hg, hc⟩ := hrel
    have Hc := Lib.hid hc; clear hc
    by_cases hlt : k < n
    · obtain ⟨b, off, pc, pv, hx, rfl, cx, hpv⟩ := RdPieces.at_ (RdPieces.gr hR hg) k hlt
      have hlt' : (k : Int) < n := by omega
      have hqn := hok.nn pc (List.mem_of_getElem? hx)
      have hbn := bsum_nn (hok.drop (k + 1)).nn
      have hrn := rsum_nn (hok.drop (k + 1)).nn
      rw [drop_cons hx, bsum_cons] at hpb
      rw [drop_cons hx, rsum_cons] at hqr
      have Hx := Lib.hid hx; clear hx
      have HQ := (congrArg (backP place p q) (drop_cons Hx.out)).symm.trans Hc.out
      have hgw : Gr w wr := (by repeat (with_reducible first | assumption | exact Gr.refl _ | apply Gr.alloc | apply Gr.drewN | apply Gr.drew | apply Gr.iter | (refine Gr.setCell ?_ (by simp) _) | (refine Gr.trans ?_ (by assumption))))
      cases pc with
      | ins l tx m =>
        obtain ⟨pl, rfl, ho, -⟩ := hpv
        obtain ⟨a', m', c', rfl, -⟩ := ho.1.sl
        simp only [backP] at HQ
        simp only [Piece.b, Piece.r, Piece.len] at hpb hqr hqn
        by_cases h1 : place < q + m
        · rw [if_pos h1] at HQ
          have HC := Lib.hid HQ; clear HQ
          go_wp2_with (go_at_call 121; refine (insLen_any _ _ _ _ ⟨_, _, _, rfl⟩).mono ?_; rintro e w' ⟨rfl, hg'⟩)
          go_ret
          exact ⟨ret_int (by rw [HC.out]), (by repeat (with_reducible first | assumption | exact Gr.refl _ | apply Gr.alloc | apply Gr.drewN | apply Gr.drew | apply Gr.iter | (refine Gr.setCell ?_ (by simp) _) | (refine Gr.trans ?_ (by assumption))))⟩
        · rw [if_neg h1] at HQ
          have HC := Lib.hid HQ; clear HQ
          go_wp2_with (go_at_call 121; refine (insLen_any _ _ _ _ ⟨_, _, _, rfl⟩).mono ?_; rintro e w' ⟨rfl, hg'⟩)
          go_roundw
          case rel => exact ⟨k + 1, p, q + m, by omega, by go_num, rfl, rfl, by omega, by omega, by omega, by omega, (by repeat (with_reducible first | assumption | exact Gr.refl _ | apply Gr.alloc | apply Gr.drewN | apply Gr.drew | apply Gr.iter | (refine Gr.setCell ?_ (by simp) _) | (refine Gr.trans ?_ (by assumption)))), HC.out⟩
          case measure => simp [intOf]; omega
      | emb l tx x =>
        obtain ⟨pl, rfl, ho, -⟩ := hpv
        obtain ⟨a', m', c', rfl, -⟩ := ho.1.sl
        obtain ⟨T, y, hv⟩ := valV_form x
        rw [hv] at cx
        simp only [backP] at HQ
        simp only [Piece.b, Piece.r, Piece.len] at hpb hqr hqn
        clear hv
        by_cases h1 : place < q + 1
        · rw [if_pos h1] at HQ
          have HC := Lib.hid HQ; clear HQ
          go_wp2_with (go_at_call 123; refine (embLen_any _ _ _ _ ⟨_, _, _, rfl⟩ ⟨_, _, rfl⟩).mono ?_; rintro e w' ⟨rfl, hg'⟩)
          go_ret
          exact ⟨ret_int (by rw [HC.out]), (by repeat (with_reducible first | assumption | exact Gr.refl _ | apply Gr.alloc | apply Gr.drewN | apply Gr.drew | apply Gr.iter | (refine Gr.setCell ?_ (by simp) _) | (refine Gr.trans ?_ (by assumption))))⟩
        · rw [if_neg h1] at HQ
          have HC := Lib.hid HQ; clear HQ
          go_wp2_with (go_at_call 123; refine (embLen_any _ _ _ _ ⟨_, _, _, rfl⟩ ⟨_, _, rfl⟩).mono ?_; rintro e w' ⟨rfl, hg'⟩)
          go_roundw
          case rel => exact ⟨k + 1, p, q + 1, by omega, by go_num, rfl, rfl, by omega, by omega, by omega, by omega, (by repeat (with_reducible first | assumption | exact Gr.refl _ | apply Gr.alloc | apply Gr.drewN | apply Gr.drew | apply Gr.iter | (refine Gr.setCell ?_ (by simp) _) | (refine Gr.trans ?_ (by assumption)))), HC.out⟩
          case measure => simp [intOf]; omega
      | ret l m =>
        obtain ⟨pl, rfl, ho⟩ := hpv
        obtain ⟨a', m', c', rfl, -⟩ := ho.1.sl
        simp only [backP] at HQ
        simp only [Piece.b, Piece.r, Piece.len] at hpb hqr hqn
        by_cases h1 : place < q + m
        · rw [if_pos h1] at HQ
          have HC := Lib.hid HQ; clear HQ
          go_wp2_with (go_at_call 117; refine (retLen_any _ _ _ ⟨_, _, _, rfl⟩).mono ?_; rintro e w' ⟨rfl, hg'⟩)
          go_ret
          exact ⟨ret_int (by rw [HC.out]), (by repeat (with_reducible first | assumption | exact Gr.refl _ | apply Gr.alloc | apply Gr.drewN | apply Gr.drew | apply Gr.iter | (refine Gr.setCell ?_ (by simp) _) | (refine Gr.trans ?_ (by assumption))))⟩
        · rw [if_neg h1] at HQ
          have HC := Lib.hid HQ; clear HQ
          go_wp2_with (go_at_call 117; refine (retLen_any _ _ _ ⟨_, _, _, rfl⟩).mono ?_; rintro e w' ⟨rfl, hg'⟩)
          go_roundw
          case rel => exact ⟨k + 1, p + m, q + m, by omega, by go_num, rfl, rfl, by omega, by omega, by omega, by omega, (by repeat (with_reducible first | assumption | exact Gr.refl _ | apply Gr.alloc | apply Gr.drewN | apply Gr.drew | apply Gr.iter | (refine Gr.setCell ?_ (by simp) _) | (refine Gr.trans ?_ (by assumption)))), HC.out⟩
          case measure => simp [intOf]; omega
      | del m =>
        obtain rfl := hpv
        simp only [backP] at HQ
        simp only [Piece.b, Piece.r, Piece.len] at hpb hqr hqn
        have HC := Lib.hid HQ; clear HQ
        go_wp2_with (go_at_call 119; refine (delLen_any _ _).mono ?_; rintro e w' ⟨rfl, hg'⟩)
        go_roundw
        case rel => exact ⟨k + 1, p + m, q, by omega, by go_num, rfl, rfl, by omega, by omega, by omega, by omega, (by repeat (with_reducible first | assumption | exact Gr.refl _ | apply Gr.alloc | apply Gr.drewN | apply Gr.drew | apply Gr.iter | (refine Gr.setCell ?_ (by simp) _) | (refine Gr.trans ?_ (by assumption)))), HC.out⟩
        case measure => simp [intOf]; omega
    · obtain rfl : k = n := by omega
      have hl0 : ps.drop k = [] := List.drop_eq_nil_of_le (by rw [hn.out]; exact Nat.le_refl _)
      have hf : backP place 0 0 ps = p + place - q := by rw [← Hc.out, hl0]; rfl
      rw [hl0] at hpb hqr
      simp only [bsum, rsum, List.map_nil, List.sum_nil] at hpb hqr
      have HF := Lib.hid hf; clear hf hl0
      go_wp2
      go_ret
      exact ⟨ret_int (by rw [HF.out]), (by repeat (with_reducible first | assumption | exact Gr.refl _ | apply Gr.alloc | apply Gr.drewN | apply Gr.drew | apply Gr.iter | (refine Gr.setCell ?_ (by simp) _) | (refine Gr.trans ?_ (by assumption))))⟩
def placeP (ps : List Piece) (place : Int) (behind : Bool) : Int × Int :=
  if 0 ≤ place ∧ place ≤ 1099511627776 then (if 1099511627776 < carP place behind 0 place ps then (0, 11) else (carP place behind 0 place ps, 0)) else (0, 12)
def backAt (ps : List Piece) (place : Int) : Int × Int :=
  if 0 ≤ place ∧ place ≤ 1099511627776 then (if 1099511627776 < backP place 0 0 ps then (0, 11) else (backP place 0 0 ps, 0)) else (0, 12)
def rangeP (ps : List Piece) (a b : Int) : Int × Int × Int :=
  if a < 0 ∨ b < a ∨ 1099511627776 < b then (0, 0, 12)
  else if 1099511627776 < min (carP a true 0 a ps) (carP b false 0 b ps) ∨ 1099511627776 < carP b false 0 b ps then (0, 0, 11) else (min (carP a true 0 a ps) (carP b false 0 b ps), carP b false 0 b ps, 0)
theorem ret_iie {ea : Nat → Addr} {k k' : IntKind} {a b c d : Int} {v : Value} {f : Int} (h : a = b) (h' : c = d) (h'' : v = errOf ea f) : Ending.returned (.tuple #[.int k a, .int k' c, v]) = .returned (.tuple #[.int k b, .int k' d, errOf ea f]) := by rw [h, h', h'']
theorem ret_ie' {ea : Nat → Addr} {k : IntKind} {a b : Int} {v : Value} {f : Int} (h : a = b) (h'' : v = errOf ea f) : Ending.returned (.tuple #[.int k a, v]) = .returned (.tuple #[.int k b, errOf ea f]) := by rw [h, h'']
set_option maxHeartbeats 1000000 in
theorem place_any {ea : Nat → Addr} (ps : List Piece) (v : Value) (place : Int) (behind : Bool) (w : World) (hE : Env ea w) (hl : DeltaR w v ps) (hok : PsOk ps)
    (hb : bsum ps ≤ 1099511627776) (hr : rsum ps ≤ 1099511627776) :
    Calls Tryd.prog 11 #[v, .int .i64 place, .bool behind] w fun e w' => e = .returned (.tuple #[.int .i64 (placeP ps place behind).1, errOf ea (placeP ps place behind).2]) ∧ Gr w w' := by
  obtain ⟨g, sl, rfl, hB, hrd⟩ := hl
  have e12 := hE.e12
  by_cases h : 0 ≤ place ∧ place ≤ 1099511627776
  · obtain ⟨X, hX⟩ : ∃ X, carP place behind 0 place ps = X := ⟨_, rfl⟩
    have hd : decide (0 ≤ place ∧ place ≤ 1099511627776) = true := decide_eq_true h
    have HD := Lib.hid hd; clear hd
    by_cases h2 : 1099511627776 < X
    · have hP : placeP ps place behind = (0, 11) := by unfold placeP; rw [if_pos h, hX, if_pos h2]
      rw [hP]
      clear hP
      have HX := Lib.hid hX; clear hX
      go_enter Tryd.func11, Tryd.ntmps11
      go_wp2_with (first
        | (go_at_call 33; refine (isplace_any _ _).mono ?_; rw [HD.out]; rintro e w1 ⟨rfl, hg1⟩)
        | (go_at_call 34; refine (carried_any ps _ place behind _ (hE.gr (by repeat (with_reducible first | assumption | exact Gr.refl _ | apply Gr.alloc | apply Gr.drewN | apply Gr.drew | apply Gr.iter | (refine Gr.setCell ?_ (by simp) _) | (refine Gr.trans ?_ (by assumption))))) (DeltaR.gr (w := w) ⟨g, sl, rfl, hB, hrd⟩ (by repeat (with_reducible first | assumption | exact Gr.refl _ | apply Gr.alloc | apply Gr.drewN | apply Gr.drew | apply Gr.iter | (refine Gr.setCell ?_ (by simp) _) | (refine Gr.trans ?_ (by assumption))))) hok h.1 h.2 hb hr).mono ?_; rw [HX.out]; rintro e w2 ⟨rfl, hg2⟩; have e11 := (hE.gr (w' := w2) (by repeat (with_reducible first | assumption | exact Gr.refl _ | apply Gr.alloc | apply Gr.drewN | apply Gr.drew | apply Gr.iter | (refine Gr.setCell ?_ (by simp) _) | (refine Gr.trans ?_ (by assumption))))).e11))
      go_quiet (fail)
      go_wp2
      go_ret2
      exact ⟨rfl, (by repeat (with_reducible first | assumption | exact Gr.refl _ | apply Gr.alloc | apply Gr.drewN | apply Gr.drew | apply Gr.iter | (refine Gr.setCell ?_ (by simp) _) | (refine Gr.trans ?_ (by assumption))))⟩
    · have hP : placeP ps place behind = (X, 0) := by unfold placeP; rw [if_pos h, hX, if_neg h2]
      rw [hP]
      clear hP
      have HX := Lib.hid hX; clear hX
      go_enter Tryd.func11, Tryd.ntmps11
      go_wp2_with (first
        | (go_at_call 33; refine (isplace_any _ _).mono ?_; rw [HD.out]; rintro e w1 ⟨rfl, hg1⟩)
        | (go_at_call 34; refine (carried_any ps _ place behind _ (hE.gr (by repeat (with_reducible first | assumption | exact Gr.refl _ | apply Gr.alloc | apply Gr.drewN | apply Gr.drew | apply Gr.iter | (refine Gr.setCell ?_ (by simp) _) | (refine Gr.trans ?_ (by assumption))))) (DeltaR.gr (w := w) ⟨g, sl, rfl, hB, hrd⟩ (by repeat (with_reducible first | assumption | exact Gr.refl _ | apply Gr.alloc | apply Gr.drewN | apply Gr.drew | apply Gr.iter | (refine Gr.setCell ?_ (by simp) _) | (refine Gr.trans ?_ (by assumption))))) hok h.1 h.2 hb hr).mono ?_; rw [HX.out]; rintro e w2 ⟨rfl, hg2⟩))
      go_ret2
      exact ⟨ret_ie' rfl (errOf_zero ea).symm, (by repeat (with_reducible first | assumption | exact Gr.refl _ | apply Gr.alloc | apply Gr.drewN | apply Gr.drew | apply Gr.iter | (refine Gr.setCell ?_ (by simp) _) | (refine Gr.trans ?_ (by assumption))))⟩
  · have hP : placeP ps place behind = (0, 12) := by unfold placeP; rw [if_neg h]
    have hd : decide (0 ≤ place ∧ place ≤ 1099511627776) = false := decide_eq_false h
    have HD := Lib.hid hd; clear hd
    rw [hP]
    clear hP
    go_enter Tryd.func11, Tryd.ntmps11
    go_wp2_with (go_at_call 33; refine (isplace_any _ _).mono ?_; rw [HD.out]; rintro e w1 ⟨rfl, hg1⟩; have e12' := (hE.gr (w' := w1) (by repeat (with_reducible first | assumption | exact Gr.refl _ | apply Gr.alloc | apply Gr.drewN | apply Gr.drew | apply Gr.iter | (refine Gr.setCell ?_ (by simp) _) | (refine Gr.trans ?_ (by assumption))))).e12)
    go_quiet (fail)
    go_wp2
    go_ret2
    exact ⟨rfl, (by repeat (with_reducible first | assumption | exact Gr.refl _ | apply Gr.alloc | apply Gr.drewN | apply Gr.drew | apply Gr.iter | (refine Gr.setCell ?_ (by simp) _) | (refine Gr.trans ?_ (by assumption))))⟩
set_option maxHeartbeats 1000000 in
theorem backAt_any {ea : Nat → Addr} (ps : List Piece) (v : Value) (place : Int) (w : World) (hE : Env ea w) (hl : DeltaR w v ps) (hok : PsOk ps)
    (hb : bsum ps ≤ 1099511627776) (hr : rsum ps ≤ 1099511627776) :
    Calls Tryd.prog 14 #[v, .int .i64 place] w fun e w' => e = .returned (.tuple #[.int .i64 (backAt ps place).1, errOf ea (backAt ps place).2]) ∧ Gr w w' := by
  obtain ⟨g, sl, rfl, hB, hrd⟩ := hl
  have e12 := hE.e12
  by_cases h : 0 ≤ place ∧ place ≤ 1099511627776
  · obtain ⟨X, hX⟩ : ∃ X, backP place 0 0 ps = X := ⟨_, rfl⟩
    have hd : decide (0 ≤ place ∧ place ≤ 1099511627776) = true := decide_eq_true h
    have HD := Lib.hid hd; clear hd
    by_cases h2 : 1099511627776 < X
    · have hP : backAt ps place  = (0, 11) := by unfold backAt; rw [if_pos h, hX, if_pos h2]
      rw [hP]
      clear hP
      have HX := Lib.hid hX; clear hX
      go_enter Tryd.func14, Tryd.ntmps14
      go_wp2_with (first
        | (go_at_call 33; refine (isplace_any _ _).mono ?_; rw [HD.out]; rintro e w1 ⟨rfl, hg1⟩)
        | (go_at_call 37; refine (back_any ps _ place _ (hE.gr (by repeat (with_reducible first | assumption | exact Gr.refl _ | apply Gr.alloc | apply Gr.drewN | apply Gr.drew | apply Gr.iter | (refine Gr.setCell ?_ (by simp) _) | (refine Gr.trans ?_ (by assumption))))) (DeltaR.gr (w := w) ⟨g, sl, rfl, hB, hrd⟩ (by repeat (with_reducible first | assumption | exact Gr.refl _ | apply Gr.alloc | apply Gr.drewN | apply Gr.drew | apply Gr.iter | (refine Gr.setCell ?_ (by simp) _) | (refine Gr.trans ?_ (by assumption))))) hok h.1 h.2 hb hr).mono ?_; rw [HX.out]; rintro e w2 ⟨rfl, hg2⟩; have e11 := (hE.gr (w' := w2) (by repeat (with_reducible first | assumption | exact Gr.refl _ | apply Gr.alloc | apply Gr.drewN | apply Gr.drew | apply Gr.iter | (refine Gr.setCell ?_ (by simp) _) | (refine Gr.trans ?_ (by assumption))))).e11))
      go_quiet (fail)
      go_wp2
      go_ret2
      exact ⟨rfl, (by repeat (with_reducible first | assumption | exact Gr.refl _ | apply Gr.alloc | apply Gr.drewN | apply Gr.drew | apply Gr.iter | (refine Gr.setCell ?_ (by simp) _) | (refine Gr.trans ?_ (by assumption))))⟩
    · have hP : backAt ps place  = (X, 0) := by unfold backAt; rw [if_pos h, hX, if_neg h2]
      rw [hP]
      clear hP
      have HX := Lib.hid hX; clear hX
      go_enter Tryd.func14, Tryd.ntmps14
      go_wp2_with (first
        | (go_at_call 33; refine (isplace_any _ _).mono ?_; rw [HD.out]; rintro e w1 ⟨rfl, hg1⟩)
        | (go_at_call 37; refine (back_any ps _ place _ (hE.gr (by repeat (with_reducible first | assumption | exact Gr.refl _ | apply Gr.alloc | apply Gr.drewN | apply Gr.drew | apply Gr.iter | (refine Gr.setCell ?_ (by simp) _) | (refine Gr.trans ?_ (by assumption))))) (DeltaR.gr (w := w) ⟨g, sl, rfl, hB, hrd⟩ (by repeat (with_reducible first | assumption | exact Gr.refl _ | apply Gr.alloc | apply Gr.drewN | apply Gr.drew | apply Gr.iter | (refine Gr.setCell ?_ (by simp) _) | (refine Gr.trans ?_ (by assumption))))) hok h.1 h.2 hb hr).mono ?_; rw [HX.out]; rintro e w2 ⟨rfl, hg2⟩))
      go_ret2
      exact ⟨ret_ie' rfl (errOf_zero ea).symm, (by repeat (with_reducible first | assumption | exact Gr.refl _ | apply Gr.alloc | apply Gr.drewN | apply Gr.drew | apply Gr.iter | (refine Gr.setCell ?_ (by simp) _) | (refine Gr.trans ?_ (by assumption))))⟩
  · have hP : backAt ps place  = (0, 12) := by unfold backAt; rw [if_neg h]
    have hd : decide (0 ≤ place ∧ place ≤ 1099511627776) = false := decide_eq_false h
    have HD := Lib.hid hd; clear hd
    rw [hP]
    clear hP
    go_enter Tryd.func14, Tryd.ntmps14
    go_wp2_with (go_at_call 33; refine (isplace_any _ _).mono ?_; rw [HD.out]; rintro e w1 ⟨rfl, hg1⟩; have e12' := (hE.gr (w' := w1) (by repeat (with_reducible first | assumption | exact Gr.refl _ | apply Gr.alloc | apply Gr.drewN | apply Gr.drew | apply Gr.iter | (refine Gr.setCell ?_ (by simp) _) | (refine Gr.trans ?_ (by assumption))))).e12)
    go_quiet (fail)
    go_wp2
    go_ret2
    exact ⟨rfl, (by repeat (with_reducible first | assumption | exact Gr.refl _ | apply Gr.alloc | apply Gr.drewN | apply Gr.drew | apply Gr.iter | (refine Gr.setCell ?_ (by simp) _) | (refine Gr.trans ?_ (by assumption))))⟩
set_option maxHeartbeats 2000000 in
theorem range_any {ea : Nat → Addr} (ps : List Piece) (v : Value) (a b : Int) (w : World) (hE : Env ea w) (hl : DeltaR w v ps) (hok : PsOk ps)
    (hb : bsum ps ≤ 1099511627776) (hr : rsum ps ≤ 1099511627776) :
    Calls Tryd.prog 16 #[v, .int .i64 a, .int .i64 b] w fun e w' => e = .returned (.tuple #[.int .i64 (rangeP ps a b).1, .int .i64 (rangeP ps a b).2.1, errOf ea (rangeP ps a b).2.2]) ∧ Gr w w' := by
  obtain ⟨g, sl, rfl, hB, hrd⟩ := hl
  have e12 := hE.e12
  by_cases h : a < 0 ∨ b < a ∨ 1099511627776 < b
  · have hP : rangeP ps a b = (0, 0, 12) := if_pos h
    have HP := Lib.hid hP; clear hP
    rw [HP.out]
    by_cases h1 : a < 0
    · clear h
      go_enter Tryd.func16, Tryd.ntmps16
      go_wp2
      go_quiet (fail)
      go_wp2
      go_ret3
      exact ⟨rfl, (by repeat (with_reducible first | assumption | exact Gr.refl _ | apply Gr.alloc | apply Gr.drewN | apply Gr.drew | apply Gr.iter | (refine Gr.setCell ?_ (by simp) _) | (refine Gr.trans ?_ (by assumption))))⟩
    · by_cases h2 : b < a
      · clear h
        go_enter Tryd.func16, Tryd.ntmps16
        go_wp2
        go_quiet (fail)
        go_wp2
        go_ret3
        exact ⟨rfl, (by repeat (with_reducible first | assumption | exact Gr.refl _ | apply Gr.alloc | apply Gr.drewN | apply Gr.drew | apply Gr.iter | (refine Gr.setCell ?_ (by simp) _) | (refine Gr.trans ?_ (by assumption))))⟩
      · have h3 : 1099511627776 < b := by omega
        clear h
        go_enter Tryd.func16, Tryd.ntmps16
        go_wp2
        go_quiet (fail)
        go_wp2
        go_ret3
        exact ⟨rfl, (by repeat (with_reducible first | assumption | exact Gr.refl _ | apply Gr.alloc | apply Gr.drewN | apply Gr.drew | apply Gr.iter | (refine Gr.setCell ?_ (by simp) _) | (refine Gr.trans ?_ (by assumption))))⟩
  · obtain ⟨X, hX⟩ : ∃ X, carP a true 0 a ps = X := ⟨_, rfl⟩
    obtain ⟨Y, hY⟩ : ∃ Y, carP b false 0 b ps = Y := ⟨_, rfl⟩
    have HX := Lib.hid (And.intro hX hY)
    have h1 : 0 ≤ a := by omega
    have h2 : a ≤ b := by omega
    have h3 : b ≤ 1099511627776 := by omega
    obtain ⟨M, hM⟩ : ∃ M, min X Y = M := ⟨_, rfl⟩
    have hP : rangeP ps a b = if 1099511627776 < M ∨ 1099511627776 < Y then (0, 0, 11) else (M, Y, 0) := by
      unfold rangeP; rw [if_neg h, hX, hY, hM]
    clear hX hY h
    have HM := Lib.hid hM; clear hM
    by_cases h4 : 1099511627776 < Y
    · rw [if_pos (.inr h4)] at hP
      rw [hP]
      clear hP
      have hDl : DeltaR w (.pointer (some ⟨g, 0, none⟩)) ps := ⟨g, sl, rfl, hB, hrd⟩
      have k1 : a ≤ 1099511627776 := by omega
      have k2 : 0 ≤ b := by omega
      go_enter Tryd.func16, Tryd.ntmps16
      go_wp2_with (first
        | (go_at_call 34; (with_reducible refine (carried_any ps _ a true _ (hE.gr (by repeat (with_reducible first | assumption | exact Gr.refl _ | apply Gr.alloc | apply Gr.drewN | apply Gr.drew | apply Gr.iter | (refine Gr.setCell ?_ (by simp) _) | (refine Gr.trans ?_ (by assumption))))) (hDl.gr (by repeat (with_reducible first | assumption | exact Gr.refl _ | apply Gr.alloc | apply Gr.drewN | apply Gr.drew | apply Gr.iter | (refine Gr.setCell ?_ (by simp) _) | (refine Gr.trans ?_ (by assumption))))) hok h1 k1 hb hr).mono ?_); rw [HX.out.1]; rintro e w1 ⟨rfl, hg1⟩)
        | (go_at_call 34; (with_reducible refine (carried_any ps _ b false _ (hE.gr (by repeat (with_reducible first | assumption | exact Gr.refl _ | apply Gr.alloc | apply Gr.drewN | apply Gr.drew | apply Gr.iter | (refine Gr.setCell ?_ (by simp) _) | (refine Gr.trans ?_ (by assumption))))) (hDl.gr (by repeat (with_reducible first | assumption | exact Gr.refl _ | apply Gr.alloc | apply Gr.drewN | apply Gr.drew | apply Gr.iter | (refine Gr.setCell ?_ (by simp) _) | (refine Gr.trans ?_ (by assumption))))) hok k2 h3 hb hr).mono ?_); rw [HX.out.2]; rintro e w2 ⟨rfl, hg2⟩; have e11' := (hE.gr (w' := w2) (by repeat (with_reducible first | assumption | exact Gr.refl _ | apply Gr.alloc | apply Gr.drewN | apply Gr.drew | apply Gr.iter | (refine Gr.setCell ?_ (by simp) _) | (refine Gr.trans ?_ (by assumption))))).e11))
      all_goals go_quiet (fail)
      all_goals go_wp2
      all_goals go_ret3
      all_goals exact ⟨rfl, (by repeat (with_reducible first | assumption | exact Gr.refl _ | apply Gr.alloc | apply Gr.drewN | apply Gr.drew | apply Gr.iter | (refine Gr.setCell ?_ (by simp) _) | (refine Gr.trans ?_ (by assumption))))⟩
    · have h5 : ¬ 1099511627776 < M := by have := HM.out; omega
      rw [if_neg (by omega)] at hP
      rw [hP]
      clear hP
      have hDl : DeltaR w (.pointer (some ⟨g, 0, none⟩)) ps := ⟨g, sl, rfl, hB, hrd⟩
      have k1 : a ≤ 1099511627776 := by omega
      have k2 : 0 ≤ b := by omega
      go_enter Tryd.func16, Tryd.ntmps16
      go_wp2_with (first
        | (go_at_call 34; (with_reducible refine (carried_any ps _ a true _ (hE.gr (by repeat (with_reducible first | assumption | exact Gr.refl _ | apply Gr.alloc | apply Gr.drewN | apply Gr.drew | apply Gr.iter | (refine Gr.setCell ?_ (by simp) _) | (refine Gr.trans ?_ (by assumption))))) (hDl.gr (by repeat (with_reducible first | assumption | exact Gr.refl _ | apply Gr.alloc | apply Gr.drewN | apply Gr.drew | apply Gr.iter | (refine Gr.setCell ?_ (by simp) _) | (refine Gr.trans ?_ (by assumption))))) hok h1 k1 hb hr).mono ?_); rw [HX.out.1]; rintro e w1 ⟨rfl, hg1⟩)
        | (go_at_call 34; (with_reducible refine (carried_any ps _ b false _ (hE.gr (by repeat (with_reducible first | assumption | exact Gr.refl _ | apply Gr.alloc | apply Gr.drewN | apply Gr.drew | apply Gr.iter | (refine Gr.setCell ?_ (by simp) _) | (refine Gr.trans ?_ (by assumption))))) (hDl.gr (by repeat (with_reducible first | assumption | exact Gr.refl _ | apply Gr.alloc | apply Gr.drewN | apply Gr.drew | apply Gr.iter | (refine Gr.setCell ?_ (by simp) _) | (refine Gr.trans ?_ (by assumption))))) hok k2 h3 hb hr).mono ?_); rw [HX.out.2]; rintro e w2 ⟨rfl, hg2⟩; have e11' := (hE.gr (w' := w2) (by repeat (with_reducible first | assumption | exact Gr.refl _ | apply Gr.alloc | apply Gr.drewN | apply Gr.drew | apply Gr.iter | (refine Gr.setCell ?_ (by simp) _) | (refine Gr.trans ?_ (by assumption))))).e11))
      go_ret3
      exact ⟨ret_iie (by rw [← HM.out]) rfl (errOf_zero ea).symm, (by repeat (with_reducible first | assumption | exact Gr.refl _ | apply Gr.alloc | apply Gr.drewN | apply Gr.drew | apply Gr.iter | (refine Gr.setCell ?_ (by simp) _) | (refine Gr.trans ?_ (by assumption))))⟩
end Ve
