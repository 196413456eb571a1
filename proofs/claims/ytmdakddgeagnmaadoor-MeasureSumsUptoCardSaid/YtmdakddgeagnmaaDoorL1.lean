/- Walks: Delta.Pieces; places.carried, back, Place, Range, Back. -/
import Derived.Test.YtmdakddgeagnmaaDoorS3
import Derived.Test.YtmdakddgeagnmaaDoorB7
import Derived.Test.YtmdakddgeagnmaaDoorB3
set_option linter.all false
namespace Ve
open Go Go.RowKit Go.Proofs

/-- Pieces that well formed operations make. -/
def PsOk (ps : List Piece) : Prop := ∀ p ∈ ps, checkOp p.op = 0 ∧ toPiece p.op = p
theorem PsOk.of_ops {l : List Op} (h : ∀ o ∈ l, checkOp o = 0) : PsOk (l.map toPiece) := by
  intro p hp
  obtain ⟨o, ho, rfl⟩ := List.mem_map.1 hp
  rw [op_toPiece (h o ho)]
  exact ⟨h o ho, rfl⟩
theorem PsOk.good {ps : List Piece} (h : PsOk ps) : ∀ p ∈ ps, p.good := fun p hp => by
  have := h p hp
  rw [← this.2]
  exact good_of this.1
theorem PsOk.ops {ps : List Piece} (h : PsOk ps) : ∀ o ∈ ps.map Piece.op, checkOp o = 0 := by
  intro o ho
  obtain ⟨p, hp, rfl⟩ := List.mem_map.1 ho
  exact (h p hp).1
theorem PsOk.back {ps : List Piece} (h : PsOk ps) : (ps.map Piece.op).map toPiece = ps := by
  rw [List.map_map]
  conv => rhs; rw [← List.map_id ps]
  exact List.map_congr_left fun p hp => (h p hp).2
theorem len_nn {p : Piece} (h : checkOp p.op = 0 ∧ toPiece p.op = p) : 0 ≤ p.len := by
  obtain ⟨h1, h2⟩ := h
  cases p with
  | ins a t n =>
    simp [Piece.op, toPiece] at h2
    simp only [Piece.len]; omega
  | emb a t x => simp [Piece.len]
  | ret a n =>
    simp only [Piece.len]
    simp only [Piece.op] at h1
    unfold checkOp at h1
    split at h1
    · omega
    · simp at h1
      by_cases c : n < 1
      · rw [if_pos c] at h1; omega
      · omega
  | del n =>
    have := count_pos h1 rfl
    simp only [Piece.op] at this
    simp only [Piece.len]; omega
def bsum (l : List Piece) : Int := (l.map Piece.b).sum
theorem bsum_cons (p : Piece) (l : List Piece) : bsum (p :: l) = p.b + bsum l := by simp [bsum]
theorem rsum_cons (p : Piece) (l : List Piece) : rsum (p :: l) = p.r + rsum l := by simp [rsum]
theorem b_nn {p : Piece} (h : 0 ≤ p.len) : 0 ≤ p.b := by cases p <;> simp_all [Piece.len, Piece.b]
theorem bsum_nn {l : List Piece} (h : ∀ p ∈ l, 0 ≤ p.len) : 0 ≤ bsum l := by
  induction l with
  | nil => simp [bsum]
  | cons p l ih =>
    rw [bsum_cons]
    have := b_nn (h p (by simp))
    have := ih fun x hx => h x (by simp [hx])
    omega
theorem rsum_nn {l : List Piece} (h : ∀ p ∈ l, 0 ≤ p.len) : 0 ≤ rsum l := by
  induction l with
  | nil => simp [rsum]
  | cons p l ih =>
    rw [rsum_cons]
    have := r_nn (h p (by simp))
    have := ih fun x hx => h x (by simp [hx])
    omega
theorem PsOk.nn {ps : List Piece} (h : PsOk ps) : ∀ p ∈ ps, 0 ≤ p.len := fun p hp => len_nn (h p hp)
theorem PsOk.drop {ps : List Piece} (h : PsOk ps) (k : Nat) : PsOk (ps.drop k) := fun p hp => h p (List.mem_of_mem_drop hp)
theorem bsum_map {l : List Op} (h : ∀ o ∈ l, checkOp o = 0) : bsum (l.map toPiece) = sumB l := by
  induction l with
  | nil => rfl
  | cons o l ih => rw [List.map_cons, bsum_cons, ih fun x hx => h x (by simp [hx]), piece_b (h o (by simp))]; rfl
theorem rsum_map {l : List Op} (h : ∀ o ∈ l, checkOp o = 0) : rsum (l.map toPiece) = sumR l := by
  induction l with
  | nil => rfl
  | cons o l ih => rw [List.map_cons, rsum_cons, ih fun x hx => h x (by simp [hx]), piece_r (h o (by simp))]; rfl
theorem DeltaR.short {w : World} {v : Value} {ps : List Piece} (h : DeltaR w v ps) : ps.length ≤ 1099511627776 := by
  obtain ⟨g, sl, rfl, hB, hr⟩ := h
  obtain ⟨a, cap, e, h1, h2, h3⟩ := hr.slice
  exact h3
set_option maxHeartbeats 1000000 in
theorem dpieces_any {ea : Nat → Addr} (ps : List Piece) (v : Value) (w : World) (hE : Env ea w) (hl : DeltaR w v ps) (hok : PsOk ps) :
    Calls Tryd.prog 51 #[v] w fun e w' => ∃ v', e = .returned v' ∧ OwnL PieceR 1 w.heap.size 83 w' v' ps ∧ Gr w w' := by
  have hlen := hl.short
  have hbad := bad_all hok.ops
  have hback := hok.back
  obtain ⟨g, sl, rfl, hB, hr⟩ := hl
  have HB := Lib.hid (And.intro hbad hback); clear hbad hback
  have hlen2 : (ps.map Piece.op).length ≤ 1099511627776 := by simpa using hlen
  have HL := Lib.hid hlen2; clear hlen2
  go_enter Tryd.func51, Tryd.ntmps51
  go_wp2_with (first
    | (go_at_call 19; refine (dops_any ps _ _ (DeltaR.gr (w := w) ⟨g, sl, rfl, hB, hr⟩ (by repeat (with_reducible first | assumption | exact Gr.refl _ | apply Gr.alloc | apply Gr.drewN | apply Gr.drew | apply Gr.iter | (refine Gr.setCell ?_ (by simp) _) | (refine Gr.trans ?_ (by assumption))))) hok.good).mono ?_; rintro e w1 ⟨v1, rfl, ho1, hg1⟩; obtain ⟨a1, n1, c1, rfl, -⟩ := ho1.sl)
    | (go_at_call 58; go_loud (refine (oof_any (ps.map Piece.op) _ _ (hE.gr (by repeat (with_reducible first | assumption | exact Gr.refl _ | apply Gr.alloc | apply Gr.drewN | apply Gr.drew | apply Gr.iter | (refine Gr.setCell ?_ (by simp) _) | (refine Gr.trans ?_ (by assumption))))) (OwnOps.rd ho1 HL.out)).mono ?_; rw [HB.out.1, HB.out.2]; rintro e w2 ⟨v2, rfl, hg2, ho2, -⟩; have ho2 := ho2 rfl; obtain ⟨a2, n2, c2, rfl, -⟩ := ho2.sl; rw [errOf_zero]; have HO2 := Lib.hid ho2; clear ho2)))
  go_ret
  exact ⟨_, rfl, OwnL.base_le HO2.out (Gr.size (w := w) (by repeat (with_reducible first | assumption | exact Gr.refl _ | apply Gr.alloc | apply Gr.drewN | apply Gr.drew | apply Gr.iter | (refine Gr.setCell ?_ (by simp) _) | (refine Gr.trans ?_ (by assumption))))), (by repeat (with_reducible first | assumption | exact Gr.refl _ | apply Gr.alloc | apply Gr.drewN | apply Gr.drew | apply Gr.iter | (refine Gr.setCell ?_ (by simp) _) | (refine Gr.trans ?_ (by assumption))))⟩
set_option maxHeartbeats 400000 in
theorem isplace_any (p : Int) (w : World) : Calls Tryd.prog 33 #[.int .i64 p] w fun e w' => e = .returned (.bool (decide (0 ≤ p ∧ p ≤ 1099511627776))) ∧ Gr w w' := by
  go_enter Tryd.func33, Tryd.ntmps33
  go_wp2
  all_goals go_ret
  all_goals refine ⟨ret_bool ?_, (by repeat (with_reducible first | assumption | exact Gr.refl _ | apply Gr.alloc | apply Gr.drewN | apply Gr.drew | apply Gr.iter | (refine Gr.setCell ?_ (by simp) _) | (refine Gr.trans ?_ (by assumption))))⟩
  all_goals (rw [Bool.eq_iff_iff]; simp <;> omega)
/-- What places.carried answers. -/
def carP (place : Int) (behind : Bool) (p t : Int) : List Piece → Int
  | [] => t
  | .ret _ n :: r => carP place behind (p + n) t r
  | .del n :: r => carP place behind (p + n) (t - min n (max (place - p) 0)) r
  | .ins _ _ n :: r => carP place behind p (if p < place ∨ (p = place ∧ behind = true) then t + n else t) r
  | .emb _ _ _ :: r => carP place behind p (if p < place ∨ (p = place ∧ behind = true) then t + 1 else t) r
set_option maxHeartbeats 4000000 in
theorem carried_any {ea : Nat → Addr} (ps : List Piece) (v : Value) (place : Int) (behind : Bool) (w : World) (hE : Env ea w) (hl : DeltaR w v ps) (hok : PsOk ps) (hp0 : 0 ≤ place) (hp1 : place ≤ 1099511627776)
    (hb : bsum ps ≤ 1099511627776) (hr : rsum ps ≤ 1099511627776) :
    Calls Tryd.prog 34 #[v, .int .i64 place, .bool behind] w fun e w' => e = .returned (.int .i64 (carP place behind 0 place ps)) ∧ Gr w w' := by
  obtain ⟨g, sl, rfl, hB, hrd⟩ := hl
  have hb := Lib.hid hb
  have hr := Lib.hid hr
  have hlen := hrd.slice
  obtain ⟨-, -, -, -, -, hlen⟩ := hlen
  go_enter Tryd.func34, Tryd.ntmps34
  go_wp2_with (go_at_call 51; refine (dpieces_any ps _ _ (hE.gr (by repeat (with_reducible first | assumption | exact Gr.refl _ | apply Gr.alloc | apply Gr.drewN | apply Gr.drew | apply Gr.iter | (refine Gr.setCell ?_ (by simp) _) | (refine Gr.trans ?_ (by assumption))))) (DeltaR.gr (w := w) ⟨g, sl, rfl, hB, hrd⟩ (by repeat (with_reducible first | assumption | exact Gr.refl _ | apply Gr.alloc | apply Gr.drewN | apply Gr.drew | apply Gr.iter | (refine Gr.setCell ?_ (by simp) _) | (refine Gr.trans ?_ (by assumption))))) hok).mono ?_; rintro e w1 ⟨v1, rfl, ho1, hg1⟩; have hR := OwnL.rd ho1 hlen; obtain ⟨a1, n, c1, rfl, hn1, hn2, hn3, hn⟩ := hR.sl)
  go_loopw [7, 8, 15] (fun x y i wr => ∃ (k : Nat) (p t : Int), k ≤ n ∧ i = .int .i64 k ∧ x = .int .i64 p ∧ y = .int .i64 t ∧ 0 ≤ p ∧ p + bsum (ps.drop k) ≤ 1099511627776 ∧ t + rsum (ps.drop k) ≤ place + 1099511627776 ∧ place - p ≤ t ∧ Gr w1 wr ∧ carP place behind p t (ps.drop k) = carP place behind 0 place ps) (fun _ _ i _ => n - (intOf i).toNat)
  case atStart => exact ⟨0, 0, place, Nat.zero_le _, rfl, rfl, rfl, by omega, by have := hb.out; simpa using this, by have := hr.out; simp; omega, by omega, Gr.refl _, rfl⟩
  case round =>
    obtain ⟨k, p, t, hk, rfl, rfl, rfl, hp, hpb, htr, hpt, hg, hc⟩ := hrel
    have Hc := Lib.hid hc; clear hc
    by_cases hlt : k < n
    · obtain ⟨b, off, q, pv, hx, rfl, cx, hq⟩ := RdPieces.at_ (RdPieces.gr hR hg) k hlt
      have hlt' : (k : Int) < n := by omega
      have hqn := hok.nn q (List.mem_of_getElem? hx)
      have hbn := bsum_nn (hok.drop (k + 1)).nn
      have hrn := rsum_nn (hok.drop (k + 1)).nn
      rw [drop_cons hx, bsum_cons] at hpb
      rw [drop_cons hx, rsum_cons] at htr
      have Hx := Lib.hid hx; clear hx
      have HQ := (congrArg (carP place behind p t) (drop_cons Hx.out)).symm.trans Hc.out
      have hgw : Gr w wr := (by repeat (with_reducible first | assumption | exact Gr.refl _ | apply Gr.alloc | apply Gr.drewN | apply Gr.drew | apply Gr.iter | (refine Gr.setCell ?_ (by simp) _) | (refine Gr.trans ?_ (by assumption))))
      cases q with
      | ins l tx m =>
        obtain ⟨pl, rfl, ho, -⟩ := hq
        obtain ⟨a', m', c', rfl, -⟩ := ho.1.sl
        simp only [carP] at HQ
        simp only [Piece.b, Piece.r, Piece.len] at hpb htr hqn
        have HC := Lib.hid HQ; clear HQ
        by_cases h1 : p < place
        · have HD := (congrArg (fun x => carP place behind p x (ps.drop (k + 1))) (if_pos (.inl h1) : _ = t + m)).symm.trans HC.out
          clear HC
          have HC := Lib.hid HD; clear HD
          go_wp2_with (go_at_call 121; refine (insLen_any _ _ _ _ ⟨_, _, _, rfl⟩).mono ?_; rintro e w' ⟨rfl, hg'⟩)
          go_roundw
          case rel => exact ⟨k + 1, p, t + m, by omega, by go_num, rfl, rfl, by omega, by omega, by omega, by omega, (by repeat (with_reducible first | assumption | exact Gr.refl _ | apply Gr.alloc | apply Gr.drewN | apply Gr.drew | apply Gr.iter | (refine Gr.setCell ?_ (by simp) _) | (refine Gr.trans ?_ (by assumption)))), HC.out⟩
          case measure => simp [intOf]; omega
        · by_cases h2 : p = place ∧ behind = true
          · have HD := (congrArg (fun x => carP place behind p x (ps.drop (k + 1))) (if_pos (.inr h2) : _ = t + m)).symm.trans HC.out
            clear HC
            have HC := Lib.hid HD; clear HD
            obtain ⟨h2, h3⟩ := h2
            have h4 : (p == place) = true := by simpa using h2
            have H2 := Lib.hid h2; clear h2
            subst h3
            go_wp2_with (go_at_call 121; refine (insLen_any _ _ _ _ ⟨_, _, _, rfl⟩).mono ?_; rintro e w' ⟨rfl, hg'⟩)
            go_roundw
            case rel => exact ⟨k + 1, p, t + m, by omega, by go_num, rfl, rfl, by omega, by omega, by omega, by omega, (by repeat (with_reducible first | assumption | exact Gr.refl _ | apply Gr.alloc | apply Gr.drewN | apply Gr.drew | apply Gr.iter | (refine Gr.setCell ?_ (by simp) _) | (refine Gr.trans ?_ (by assumption)))), HC.out⟩
            case measure => simp [intOf]; omega
          · have HD := (congrArg (fun x => carP place behind p x (ps.drop (k + 1))) (if_neg (fun h => h.elim h1 h2) : _ = t)).symm.trans HC.out
            clear HC
            have HC := Lib.hid HD; clear HD
            by_cases h3 : p = place
            · have h4 : (p == place) = true := by simpa using h3
              have h5 : behind = false := by cases behind with | false => rfl | true => exact absurd ⟨h3, rfl⟩ h2
              have H3 := Lib.hid h3; clear h3 h2
              subst h5
              go_wp2
              go_roundw
              case rel => exact ⟨k + 1, p, t, by omega, by go_num, rfl, rfl, by omega, by omega, by omega, by omega, (by repeat (with_reducible first | assumption | exact Gr.refl _ | apply Gr.alloc | apply Gr.drewN | apply Gr.drew | apply Gr.iter | (refine Gr.setCell ?_ (by simp) _) | (refine Gr.trans ?_ (by assumption)))), HC.out⟩
              case measure => simp [intOf]; omega
            · have h4 : (p == place) = false := by simpa using h3
              clear h2 h3
              go_wp2
              go_roundw
              case rel => exact ⟨k + 1, p, t, by omega, by go_num, rfl, rfl, by omega, by omega, by omega, by omega, (by repeat (with_reducible first | assumption | exact Gr.refl _ | apply Gr.alloc | apply Gr.drewN | apply Gr.drew | apply Gr.iter | (refine Gr.setCell ?_ (by simp) _) | (refine Gr.trans ?_ (by assumption)))), HC.out⟩
              case measure => simp [intOf]; omega
      | emb l tx x =>
        obtain ⟨pl, rfl, ho, -⟩ := hq
        obtain ⟨a', m', c', rfl, -⟩ := ho.1.sl
        obtain ⟨T, y, hv⟩ := valV_form x
        rw [hv] at cx
        simp only [carP] at HQ
        simp only [Piece.b, Piece.r, Piece.len] at hpb htr hqn
        have HC := Lib.hid HQ; clear HQ
        clear hv
        by_cases h1 : p < place
        · have HD := (congrArg (fun x => carP place behind p x (ps.drop (k + 1))) (if_pos (.inl h1) : _ = t + 1)).symm.trans HC.out
          clear HC
          have HC := Lib.hid HD; clear HD
          go_wp2_with (go_at_call 123; refine (embLen_any _ _ _ _ ⟨_, _, _, rfl⟩ ⟨_, _, rfl⟩).mono ?_; rintro e w' ⟨rfl, hg'⟩)
          go_roundw
          case rel => exact ⟨k + 1, p, t + 1, by omega, by go_num, rfl, rfl, by omega, by omega, by omega, by omega, (by repeat (with_reducible first | assumption | exact Gr.refl _ | apply Gr.alloc | apply Gr.drewN | apply Gr.drew | apply Gr.iter | (refine Gr.setCell ?_ (by simp) _) | (refine Gr.trans ?_ (by assumption)))), HC.out⟩
          case measure => simp [intOf]; omega
        · by_cases h2 : p = place ∧ behind = true
          · have HD := (congrArg (fun x => carP place behind p x (ps.drop (k + 1))) (if_pos (.inr h2) : _ = t + 1)).symm.trans HC.out
            clear HC
            have HC := Lib.hid HD; clear HD
            obtain ⟨h2, h3⟩ := h2
            have h4 : (p == place) = true := by simpa using h2
            have H2 := Lib.hid h2; clear h2
            subst h3
            go_wp2_with (go_at_call 123; refine (embLen_any _ _ _ _ ⟨_, _, _, rfl⟩ ⟨_, _, rfl⟩).mono ?_; rintro e w' ⟨rfl, hg'⟩)
            go_roundw
            case rel => exact ⟨k + 1, p, t + 1, by omega, by go_num, rfl, rfl, by omega, by omega, by omega, by omega, (by repeat (with_reducible first | assumption | exact Gr.refl _ | apply Gr.alloc | apply Gr.drewN | apply Gr.drew | apply Gr.iter | (refine Gr.setCell ?_ (by simp) _) | (refine Gr.trans ?_ (by assumption)))), HC.out⟩
            case measure => simp [intOf]; omega
          · have HD := (congrArg (fun x => carP place behind p x (ps.drop (k + 1))) (if_neg (fun h => h.elim h1 h2) : _ = t)).symm.trans HC.out
            clear HC
            have HC := Lib.hid HD; clear HD
            by_cases h3 : p = place
            · have h4 : (p == place) = true := by simpa using h3
              have h5 : behind = false := by cases behind with | false => rfl | true => exact absurd ⟨h3, rfl⟩ h2
              have H3 := Lib.hid h3; clear h3 h2
              subst h5
              go_wp2
              go_roundw
              case rel => exact ⟨k + 1, p, t, by omega, by go_num, rfl, rfl, by omega, by omega, by omega, by omega, (by repeat (with_reducible first | assumption | exact Gr.refl _ | apply Gr.alloc | apply Gr.drewN | apply Gr.drew | apply Gr.iter | (refine Gr.setCell ?_ (by simp) _) | (refine Gr.trans ?_ (by assumption)))), HC.out⟩
              case measure => simp [intOf]; omega
            · have h4 : (p == place) = false := by simpa using h3
              clear h2 h3
              go_wp2
              go_roundw
              case rel => exact ⟨k + 1, p, t, by omega, by go_num, rfl, rfl, by omega, by omega, by omega, by omega, (by repeat (with_reducible first | assumption | exact Gr.refl _ | apply Gr.alloc | apply Gr.drewN | apply Gr.drew | apply Gr.iter | (refine Gr.setCell ?_ (by simp) _) | (refine Gr.trans ?_ (by assumption)))), HC.out⟩
              case measure => simp [intOf]; omega
      | ret l m =>
        obtain ⟨pl, rfl, ho⟩ := hq
        obtain ⟨a', m', c', rfl, -⟩ := ho.1.sl
        simp only [carP] at HQ
        simp only [Piece.b, Piece.r, Piece.len] at hpb htr hqn
        have HC := Lib.hid HQ; clear HQ
        go_wp2_with (go_at_call 117; refine (retLen_any _ _ _ ⟨_, _, _, rfl⟩).mono ?_; rintro e w' ⟨rfl, hg'⟩)
        go_roundw
        case rel => exact ⟨k + 1, p + m, t, by omega, by go_num, rfl, rfl, by omega, by omega, by omega, by omega, (by repeat (with_reducible first | assumption | exact Gr.refl _ | apply Gr.alloc | apply Gr.drewN | apply Gr.drew | apply Gr.iter | (refine Gr.setCell ?_ (by simp) _) | (refine Gr.trans ?_ (by assumption)))), HC.out⟩
        case measure => simp [intOf]; omega
      | del m =>
        obtain rfl := hq
        simp only [carP] at HQ
        simp only [Piece.b, Piece.r, Piece.len] at hpb htr hqn
        obtain ⟨M, hM⟩ : ∃ M, min m (max (place - p) 0) = M := ⟨_, rfl⟩
        have hM0 : 0 ≤ M ∧ M ≤ m := by omega
        have hM1 : M ≤ max (place - p) 0 := by omega
        rw [hM] at HQ
        have HC := Lib.hid HQ; clear HQ
        have HM := Lib.hid hM; clear hM
        go_wp2_with (go_at_call 119; refine (delLen_any _ _).mono ?_; rintro e w' ⟨rfl, hg'⟩)
        go_roundw
        case rel => exact ⟨k + 1, p + m, t - M, by omega, by go_num, rfl, by rw [← HM.out], by omega, by omega, by omega, by omega, (by repeat (with_reducible first | assumption | exact Gr.refl _ | apply Gr.alloc | apply Gr.drewN | apply Gr.drew | apply Gr.iter | (refine Gr.setCell ?_ (by simp) _) | (refine Gr.trans ?_ (by assumption)))), HC.out⟩
        case measure => simp [intOf]; omega
    · obtain rfl : k = n := by omega
      have hl0 : ps.drop k = [] := List.drop_eq_nil_of_le (by rw [hn.out]; exact Nat.le_refl _)
      have hf : carP place behind 0 place ps = t := by rw [← Hc.out, hl0]; rfl
      have HF := Lib.hid hf; clear hf
      go_wp2
      go_ret
      exact ⟨ret_int (by rw [HF.out]), (by repeat (with_reducible first | assumption | exact Gr.refl _ | apply Gr.alloc | apply Gr.drewN | apply Gr.drew | apply Gr.iter | (refine Gr.setCell ?_ (by simp) _) | (refine Gr.trans ?_ (by assumption))))⟩
end Ve
