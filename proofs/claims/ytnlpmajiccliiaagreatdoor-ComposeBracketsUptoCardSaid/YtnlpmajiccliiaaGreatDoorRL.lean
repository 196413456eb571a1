import Derived.Test.YtnlpmajiccliiaaGreatDoorRD
import Derived.Test.YtnlpmajiccliiaaGreatDoorM7
set_option linter.all false
/- Plain laws: what a builder makes is canonical, and so is what a walker leaves of it. -/
namespace Ve
open Go Go.RowKit Go.Proofs

/-- May p stand right behind q in a canonical list? -/
def capP : Piece → Piece → Bool
  | .del _, .ret _ _ => true
  | .del _, _ => false
  | q, p => sepP q p
def capF : Piece → List Piece → Bool
  | _, [] => true
  | q, p :: r => capP q p && capF p r
def capL : List Piece → Bool
  | [] => true
  | p :: r => capF p r
theorem capF_snoc {q : Piece} {m : List Piece} {p : Piece} : ∀ {x : Piece}, capF x (m ++ [q, p]) = (capF x (m ++ [q]) && capP q p) := by
  induction m with
  | nil => intro x; simp [capF]
  | cons y m ih => intro x; simp only [List.cons_append, capF, ih, Bool.and_assoc]
theorem capL_snoc {m : List Piece} {q p : Piece} : capL (m ++ [q, p]) = (capL (m ++ [q]) && capP q p) := by
  cases m with
  | nil => simp [capL, capF]
  | cons x m => simp only [List.cons_append, capL]; exact capF_snoc
theorem capF_init {q : Piece} {m : List Piece} : ∀ {x : Piece}, capF x (m ++ [q]) = true → capF x m = true := by
  induction m with
  | nil => intro x _; rfl
  | cons y m ih => intro x h; simp only [List.cons_append, capF, Bool.and_eq_true] at h ⊢; exact ⟨h.1, ih h.2⟩
theorem capL_init {m : List Piece} {q : Piece} (h : capL (m ++ [q]) = true) : capL m = true := by
  cases m with
  | nil => rfl
  | cons x m => exact capF_init h
theorem capL_tail {p : Piece} {r : List Piece} (h : capL (p :: r) = true) : capL r = true := by
  cases r with
  | nil => rfl
  | cons q r => simp [capL, capF] at h; exact h.2
theorem joinTo_cap {q p : Piece} (h : joinTo q p = none) (hd : ∀ n, q = .del n → ∃ a k, p = .ret a k) : capP q p = true := by
  cases q with
  | del n => obtain ⟨a, k, rfl⟩ := hd n rfl; rfl
  | ins a t n => exact joinTo_sep h (by simp)
  | emb a t n => exact joinTo_sep h (by simp)
  | ret a n => exact joinTo_sep h (by simp)
theorem joinTo_capkey {q p r x : Piece} (h : joinTo q p = some r) : capP x r = capP x q := by
  cases q <;> cases p <;> simp [joinTo] at h
  all_goals
    obtain ⟨rfl, rfl⟩ := h
    cases x <;> rfl
theorem cap_joined {ps : List Piece} {p : Piece} (h : capL ps = true) (hd : ∀ n, ps.getLast? = some (.del n) → ∃ a k, p = .ret a k) : capL (joinedL ps p) = true := by
  rcases snoc_cases ps with rfl | ⟨m, q, rfl⟩
  · rfl
  · rw [joinedL_snoc]
    cases hj : joinTo q p with
    | none =>
      simp only
      rw [capL_snoc, h, joinTo_cap hj fun n e => hd n (by simp [e])]; rfl
    | some r =>
      simp only
      rcases snoc_cases m with rfl | ⟨m, x, rfl⟩
      · rfl
      · simp only [List.append_assoc, List.singleton_append] at h ⊢
        rw [capL_snoc] at h ⊢
        rw [joinTo_capkey hj]; exact h
theorem cap_deleted {ps : List Piece} {g : Int} (h : capL ps = true) (hl : ∀ n, ps.getLast? ≠ some (.del n)) : capL (deletedL ps g) = true := by
  unfold deletedL
  split
  · exact h
  · rcases snoc_cases ps with rfl | ⟨m, q, rfl⟩
    · rfl
    · simp only [List.append_assoc, List.singleton_append]
      rw [capL_snoc, h]
      have : ∀ n, q ≠ .del n := fun n e => hl n (by simp [e])
      cases q <;> first | rfl | exact absurd rfl (this _)
theorem joinTo_b {q p r : Piece} (h : joinTo q p = some r) : r.b = q.b + p.b := by
  cases q <;> cases p <;> simp [joinTo] at h
  all_goals
    obtain ⟨rfl, rfl⟩ := h
    simp [Piece.b]
theorem bsum_app (l m : List Piece) : bsum (l ++ m) = bsum l + bsum m := by simp [bsum]
theorem joinedL_bsum (l : List Piece) (p : Piece) : bsum (joinedL l p) = bsum l + p.b := by
  rcases snoc_cases l with rfl | ⟨m, q, rfl⟩
  · simp [joinedL, bsum]
  · rw [joinedL_snoc]
    cases h : joinTo q p with
    | none => simp [bsum]; omega
    | some r => have := joinTo_b h; simp [bsum]; omega
theorem deletedL_bsum (l : List Piece) (g : Int) : bsum (deletedL l g) = bsum l + g := by
  unfold deletedL
  split
  · omega
  · rw [bsum_app]; simp [bsum, Piece.b]
theorem deletedL_rsum (l : List Piece) (g : Int) : rsum (deletedL l g) = rsum l := by
  unfold deletedL
  split
  · rfl
  · rw [rsum_app]; simp [rsum, Piece.r]
/-- The builder's pieces are canonical. -/
structure Bld.Cap (s : Bld) : Prop where
  cap : capL s.pieces = true
  last : ∀ n, s.pieces.getLast? ≠ some (.del n)
  bs : bsum s.pieces + s.gone ≤ s.base
theorem Bld.Cap.new : Bld.new.Cap := ⟨rfl, by simp [Bld.new], by simp [Bld.new, bsum]⟩
theorem Bld.Cap.put {s : Bld} (h : s.Cap) (p : Piece) : (s.put p).Cap := by
  obtain ⟨h1, h2, h3⟩ := h
  cases p with
  | del n => exact ⟨h1, h2, by simp only [Bld.put]; omega⟩
  | ins a t n => exact ⟨cap_joined h1 fun n e => absurd e (h2 n), joined_last _ _ (by simp), by simp only [Bld.put]; rw [joinedL_bsum]; simp only [Piece.b] at *; omega⟩
  | emb a k v => exact ⟨cap_joined h1 fun n e => absurd e (h2 n), joined_last _ _ (by simp), by simp only [Bld.put]; rw [joinedL_bsum]; simp only [Piece.b] at *; omega⟩
  | ret a n => exact ⟨cap_joined (cap_deleted h1 h2) fun _ _ => ⟨a, n, rfl⟩, joined_last _ _ (by simp), by simp only [Bld.put]; rw [joinedL_bsum, deletedL_bsum]; simp only [Piece.b] at *; omega⟩
theorem Bld.Cap.all {l : List Op} : ∀ {s : Bld}, s.Cap → (putAll s l).Cap := by
  induction l with
  | nil => intro s h; exact h
  | cons o l ih => intro s h; exact ih (s := s.put (toPiece o)) (h.put _)
/-- Does a list end in no plain retain? -/
def endL (ps : List Piece) : Prop := ∀ n, ps.getLast? ≠ some (.ret [] n)
/-- Canonical pieces. -/
structure Can (ps : List Piece) : Prop where
  ok : PsOk ps
  cap : capL ps = true
  b : bsum ps ≤ 1099511627776
  r : rsum ps ≤ 1099511627776
  last : endL ps
theorem capP_apart {q p : Piece} (hq : pOk q) (hp : pOk p) : apartO q.op p.op = capP q p := by
  cases q <;> cases p <;> simp [apartO, capP, sepP, Piece.op, bne]
  all_goals (rw [Bool.eq_iff_iff]; first | (simp; done) | (simp; exact ⟨fun h => of_decide_eq_true h, fun h => decide_eq_true h⟩))
theorem capF_apart {r : List Piece} : ∀ {q : Piece}, pOk q → PsOk r → apartFrom q.op (r.map Piece.op) = capF q r := by
  induction r with
  | nil => intro q _ _; rfl
  | cons p r ih =>
    intro q hq hr
    have hp : pOk p := hr p (by simp)
    simp only [List.map_cons, apartFrom, capF]
    rw [capP_apart hq hp, ih hp fun x hx => hr x (by simp [hx])]
theorem capL_apart {ps : List Piece} (h : PsOk ps) : apartAll (ps.map Piece.op) = capL ps := by
  cases ps with
  | nil => rfl
  | cons p r => exact capF_apart (h p (by simp)) fun x hx => h x (by simp [hx])
theorem lens_of {l : List Op} : ∀ {b r : Int}, (∀ o ∈ l, checkOp o = 0) → b + sumB l ≤ 1099511627776 → r + sumR l ≤ 1099511627776 → (lensFrom b r l).2.2 = 0 := by
  induction l with
  | nil => intro b r _ _ _; rfl
  | cons o l ih =>
    intro b r h hb hr
    have h' : ∀ x ∈ l, checkOp x = 0 := fun x hx => h x (by simp [hx])
    have n1 := sumB_nn h'
    have n2 := sumR_nn h'
    simp only [sumB, sumR] at hb hr
    rw [lens_step rfl rfl (by omega) (by omega)]
    exact ih h' (by omega) (by omega)
theorem end_last {ps : List Piece} : lastOk (ps.map Piece.op) = true ↔ endL ps := by
  rcases snoc_cases ps with rfl | ⟨m, q, rfl⟩
  · simp [lastOk, endL]
  · unfold lastOk endL
    rw [List.map_append, List.map_cons, List.map_nil]
    simp only [List.getLast?_append, List.getLast?_singleton, Option.some_or]
    cases q <;> simp [Piece.op]
theorem Can.canon {ps : List Piece} (h : Can ps) : canonL (ps.map Piece.op) = true := by
  have h0 := bad_all h.ok.ops
  obtain ⟨s1, s2⟩ := sums_ps h.ok
  have hb := h.b
  have hr := h.r
  unfold canonL lensL
  rw [h0]
  simp only [ne_eq, not_true_eq_false, if_false, Bool.and_eq_true, beq_iff_eq]
  exact ⟨lens_of h.ok.ops (by omega) (by omega), by rw [capL_apart h.ok]; exact h.cap, end_last.2 h.last⟩
/-- Canonical pieces, put again, are themselves. -/
theorem Can.push {ps : List Piece} (h : Can ps) : ∃ s, pushAll (ps.map Piece.op) = (s, 0, 0) ∧ s.delta = ps := by
  obtain ⟨s, h1, h2⟩ := canon_push h.canon
  exact ⟨s, h1, by rw [h2, h.ok.back]⟩
theorem Can.of_canon {l : List Op} (h : canonL l = true) : Can (l.map toPiece) := by
  obtain ⟨h1, h2, h3, h4⟩ := canon_parts h
  obtain ⟨o1, o2, o3, o4, o5⟩ := canon_ok h
  refine ⟨o2, ?_, o3, o4, ?_⟩
  · rw [← capL_apart o2, o5]; exact h3
  · rw [← end_last, o5]; exact h4
theorem trimmed_end {l : List Piece} (h : PsOk l) (hs : capL l = true) (hb : bsum l ≤ 1099511627776) (hr : rsum l ≤ 1099511627776) : Can (trimmed l) := by
  rcases snoc_cases l with rfl | ⟨m, q, rfl⟩
  · exact ⟨h, hs, hb, hr, by simp [endL, trimmed]⟩
  · have hq : pOk q := h q (by simp)
    have hm : PsOk m := fun x hx => h x (by simp [hx])
    by_cases hr' : ∃ n, q = .ret [] n
    · obtain ⟨n, rfl⟩ := hr'
      have e : trimmed (m ++ [Piece.ret [] n]) = m := by simp [trimmed]
      rw [e]
      have := pOk_pos hq
      rw [bsum_app] at hb
      rw [rsum_app] at hr
      simp [bsum, Piece.b] at hb
      simp [rsum, Piece.r] at hr
      simp only [Piece.len] at this
      refine ⟨hm, capL_init hs, by simp only [bsum]; omega, by simp only [rsum]; omega, ?_⟩
      intro k hk
      rcases snoc_cases m with rfl | ⟨m, y, rfl⟩
      · simp at hk
      · simp at hk
        subst hk
        simp only [List.append_assoc, List.singleton_append] at hs
        rw [capL_snoc] at hs
        simp [capP, sepP] at hs
    · have hn : ∀ n, q ≠ .ret [] n := fun n e => hr' ⟨n, e⟩
      have e : trimmed (m ++ [q]) = m ++ [q] := by
        unfold trimmed
        simp only [List.getLast?_append, List.getLast?_singleton, Option.some_or]
        cases q with
        | ret a n =>
          cases a with
          | nil => exact absurd rfl (hn n)
          | cons x a => rfl
        | _ => rfl
      rw [e]
      exact ⟨h, hs, hb, hr, by intro n hk; simp at hk; exact hn n hk⟩
/-- What is made of a list is canonical. -/
theorem made_can {l : List Op} {s : Bld} (hs : ∀ o ∈ l, szS o.text) (hp : pushAll l = (s, 0, 0)) : Can s.delta := by
  obtain ⟨h1, h2, h3⟩ := push_good Bld.Good.new Bld.Inv.new hs hp
  obtain ⟨d1, -, -⟩ := ok_deleted h1 h2.g0 (by have := h2.g1; have := h2.b1; omega)
  obtain ⟨-, e, -, -⟩ := all_sums hp
  have hc : s.Cap := by rw [e]; exact Bld.Cap.new.all
  refine trimmed_end d1 (cap_deleted hc.cap hc.last) ?_ ?_
  · rw [deletedL_bsum]; have := hc.bs; have := h2.b1; omega
  · rw [deletedL_rsum]; have := h2.rs; have := h2.r1; omega
theorem cut_capF {p : Piece} {n : Int} {r : List Piece} : capF (cutP p n).2 r = capF p r := by
  cases r with
  | nil => rfl
  | cons q r => cases p <;> cases q <;> rfl
theorem cut_sums {p : Piece} {n : Int} (h1 : 1 ≤ n) (h2 : n < p.len) : (cutP p n).2.b ≤ p.b ∧ (cutP p n).2.r ≤ p.r ∧ 0 ≤ (cutP p n).2.b := by
  cases p <;> simp only [cutP, Piece.b, Piece.r, Piece.len] at * <;> omega
/-- What a walker leaves is canonical. -/
theorem Can.next {ps : List Piece} {n : Int} (h : Can ps) (h1 : 1 ≤ n) : Can (nextP ps n).2 ∧ tsum (nextP ps n).2 ≤ tsum ps ∧ (nextP ps n).2.length ≤ ps.length := by
  have hok := (next_ok h.ok h1).2.1
  cases ps with
  | nil => exact ⟨h, Nat.le_refl _, Nat.le_refl _⟩
  | cons p r =>
    have hp : pOk p := h.ok p (by simp)
    obtain ⟨-, hc, hb, hr, hl⟩ := h
    rw [bsum_cons] at hb
    rw [rsum_cons] at hr
    have b0 := b_nn (len_nn hp)
    have r0 := r_nn (len_nn hp)
    have et : tsum (p :: r) = tsize p + tsum r := by simp [tsum]
    by_cases c : p.len ≤ n
    · have e : nextP (p :: r) n = (p, r) := by simp [nextP, c]
      rw [e] at hok ⊢
      dsimp only at hok ⊢
      refine ⟨⟨hok, capL_tail hc, by omega, by omega, ?_⟩, by omega, by simp⟩
      intro k hk
      refine hl k ?_
      cases r with
      | nil => simp at hk
      | cons q r => rw [List.getLast?_cons_cons]; exact hk
    · have e : nextP (p :: r) n = ((cutP p n).1, (cutP p n).2 :: r) := by simp [nextP, c]
      rw [e] at hok ⊢
      dsimp only at hok ⊢
      obtain ⟨s1, s2, s3⟩ := cut_sums h1 (show n < p.len by omega)
      have eu := (cut_units hp h1 (show n < p.len by omega)).2
      have hc2 : pOk (cutP p n).2 := hok _ (by simp)
      have ht : tsize (cutP p n).2 ≤ tsize p := by rw [tsize_usz hc2, tsize_usz hp, eu]; exact usz_drop _ _
      have et2 : tsum ((cutP p n).2 :: r) = tsize (cutP p n).2 + tsum r := by simp [tsum]
      refine ⟨⟨hok, by simp only [capL]; rw [cut_capF]; exact hc, by rw [bsum_cons]; omega, by rw [rsum_cons]; omega, ?_⟩, by omega, by simp⟩
      intro k hk
      cases r with
      | nil =>
        simp at hk
        cases p <;> simp [cutP] at hk
        obtain ⟨rfl, -⟩ := hk
        exact hl _ rfl
      | cons q r => rw [List.getLast?_cons_cons] at hk; refine hl k ?_; rw [List.getLast?_cons_cons]; exact hk
end Ve
/- Walks: the reference's walker (length, Kind, Left); law07.w2, is; walk.Rest, inserts. -/
namespace Ve
open Go Go.RowKit Go.Proofs


end Ve
/- Walks: a walker's Rest, inserts; vellumlaw07.is, marked; walk.Steps, walk.step. -/
/- Walks: a walker's Rest. -/
namespace Ve
open Go Go.RowKit Go.Proofs


end Ve
/- Walks: vellumlaw07.is; a walker's inserts. -/
namespace Ve
open Go Go.RowKit Go.Proofs


set_option maxHeartbeats 1000000 in
theorem winserts_any (g : Nat) (lb : Option Nat) (ps : List Piece) (w : World) (hW : WalkX w g lb ps) :
    Calls Tryz.prog 168 #[.pointer (some ⟨g, 0, none⟩)] w fun e w' => e = .returned (.bool (decide (kindP ps = 1 ∨ kindP ps = 2))) ∧ Gr w w' := by
  obtain ⟨K, hK⟩ : ∃ K, kindP ps = K := ⟨_, rfl⟩
  rw [hK]
  have HK := Lib.hid hK; clear hK
  go_enter Tryz.func168, Tryz.ntmps168
  by_cases h1 : K = 1
  · subst h1
    go_wp2_with (go_at_call 170; refine (wkindw_any g lb ps _ (hW.gr (by repeat (with_reducible first | assumption | exact Gr.refl _ | apply Gr.alloc | apply Gr.drewN | apply Gr.drew | apply Gr.iter | (refine Gr.setCell ?_ (by simp) _) | (refine Gr.trans ?_ (by assumption)))))).mono ?_; rw [HK.out]; rintro e w1 ⟨rfl, hg1⟩)
    go_ret
    exact ⟨rfl, (by repeat (with_reducible first | assumption | exact Gr.refl _ | apply Gr.alloc | apply Gr.drewN | apply Gr.drew | apply Gr.iter | (refine Gr.setCell ?_ (by simp) _) | (refine Gr.trans ?_ (by assumption))))⟩
  · have k1 : (K == 1) = false := by simpa using h1
    go_wp2_with (first
      | (go_at_call 170; refine (wkindw_any g lb ps _ (hW.gr (by repeat (with_reducible first | assumption | exact Gr.refl _ | apply Gr.alloc | apply Gr.drewN | apply Gr.drew | apply Gr.iter | (refine Gr.setCell ?_ (by simp) _) | (refine Gr.trans ?_ (by assumption)))))).mono ?_; rw [HK.out]; rintro e w1 ⟨rfl, hg1⟩))
    all_goals go_ret
    all_goals (refine ⟨ret_bool ?_, (by repeat (with_reducible first | assumption | exact Gr.refl _ | apply Gr.alloc | apply Gr.drewN | apply Gr.drew | apply Gr.iter | (refine Gr.setCell ?_ (by simp) _) | (refine Gr.trans ?_ (by assumption))))⟩; rw [Bool.eq_iff_iff]; simp; try omega)

end Ve
/- Walks: vellumlaw07.marked; walk.Steps. -/
namespace Ve
open Go Go.RowKit Go.Proofs

theorem wsteps_any (a b : Option Addr) (w : World) : Calls Tryz.prog 111 #[.pointer a, .pointer b] w fun e w' => e = .returned (.func (.func 145) #[] #[.pointer (some ⟨w.heap.size, 0, none⟩), .pointer (some ⟨w.heap.size + 1, 0, none⟩)]) ∧ w' = (w.alloc (.cells #[.pointer a] 24)).alloc (.cells #[.pointer b] 24) := by
  go_enter Tryz.func111, Tryz.ntmps111
  go_wp2
  go_ret
  exact ⟨rfl, rfl⟩

end Ve
/- Walks: walk.step. -/
namespace Ve
open Go Go.RowKit Go.Proofs

theorem Can.left {ps : List Piece} (h : Can ps) : 1 ≤ leftP ps ∧ leftP ps ≤ 1099511627776 := by
  cases ps with
  | nil => simp [leftP]
  | cons p r =>
    have hp := pOk_pos (h.ok p (by simp))
    refine ⟨hp, ?_⟩
    have hb := h.b
    have hr := h.r
    have n1 := bsum_nn (l := r) fun x hx => h.ok.nn x (by simp [hx])
    have n2 := rsum_nn (l := r) fun x hx => h.ok.nn x (by simp [hx])
    rw [bsum_cons] at hb
    rw [rsum_cons] at hr
    cases p <;> simp only [leftP, Piece.len, Piece.b, Piece.r] at * <;> omega

set_option maxRecDepth 4000 in
set_option maxHeartbeats 4000000 in
theorem wstep_ins {ea : Nat → Addr} (gx gy : Nat) (lx ly : Option Nat) (ps qs : List Piece) (w : World) (hE : Env ea w) (hX : WalkX w gx lx ps) (hY : WalkX w gy ly qs) (hq : Can qs) (hne : gx ≠ gy) (hk : kindP qs = 1 ∨ kindP qs = 2) :
    Calls Tryz.prog 146 #[.pointer (some ⟨gx, 0, none⟩), .pointer (some ⟨gy, 0, none⟩)] w fun e w' => ∃ pv lb', e = .returned (.tuple #[.nilIface, pv, .nilIface]) ∧ PieceV w' (nextP qs (leftP qs)).1 pv ∧ WalkX w' gx lx ps ∧ WalkX w' gy lb' (nextP qs (leftP qs)).2 ∧
      (∀ b, lb' = some b → ly = some b ∨ w.heap.size ≤ b) ∧ Kg (fun b => b = gy) wkT w w' := by
  obtain ⟨h1, h2⟩ := hq.left
  obtain ⟨L, hL⟩ : ∃ L, leftP qs = L := ⟨_, rfl⟩
  rw [hL] at h1 h2 ⊢
  have HL := Lib.hid hL; clear hL
  have HK := Lib.hid (show decide (kindP qs = 1 ∨ kindP qs = 2) = true from decide_eq_true hk); clear hk
  go_enter Tryz.func146, Tryz.ntmps146
  go_wp2_with (first
    | (go_at_call 168; refine (winserts_any gy ly qs _ (hY.gr (by repeat (with_reducible first | assumption | exact Gr.refl _ | apply Gr.alloc | apply Gr.drewN | apply Gr.drew | apply Gr.iter | (refine Gr.setCell ?_ (by simp) _) | (refine Gr.trans ?_ (by assumption)))))).mono ?_; rw [HK.out]; rintro e w1 ⟨rfl, hg1⟩)
    | (go_at_call 169; refine (wleft_any gy ly qs _ (hY.gr (by repeat (with_reducible first | assumption | exact Gr.refl _ | apply Gr.alloc | apply Gr.drewN | apply Gr.drew | apply Gr.iter | (refine Gr.setCell ?_ (by simp) _) | (refine Gr.trans ?_ (by assumption)))))).mono ?_; rw [HL.out]; rintro e w2 ⟨rfl, hg2⟩)
    | (go_at_call 127; refine (wnext_int gy ly qs L _ (hE.gr (by repeat (with_reducible first | assumption | exact Gr.refl _ | apply Gr.alloc | apply Gr.drewN | apply Gr.drew | apply Gr.iter | (refine Gr.setCell ?_ (by simp) _) | (refine Gr.trans ?_ (by assumption))))) (hY.gr (by repeat (with_reducible first | assumption | exact Gr.refl _ | apply Gr.alloc | apply Gr.drewN | apply Gr.drew | apply Gr.iter | (refine Gr.setCell ?_ (by simp) _) | (refine Gr.trans ?_ (by assumption))))) hq.ok h1 (by omega)).mono ?_; rintro e w3 ⟨pv, lb', rfl, hp3, hw3, hl3, hk3⟩))
  go_ret3
  have hg : Gr w w2 := (by repeat (with_reducible first | assumption | exact Gr.refl _ | apply Gr.alloc | apply Gr.drewN | apply Gr.drew | apply Gr.iter | (refine Gr.setCell ?_ (by simp) _) | (refine Gr.trans ?_ (by assumption))))
  refine ⟨pv, lb', rfl, hp3, (hX.gr hg).kg hk3 (by decide) (.inl (by decide)) (.inr hne), hw3, fun b hb => (hl3 b hb).imp id fun h => Nat.le_trans hg.size h, (Kg.of_gr hg).trans hk3⟩
set_option maxRecDepth 4000 in
set_option maxHeartbeats 4000000 in
theorem wstep_del {ea : Nat → Addr} (gx gy : Nat) (lx ly : Option Nat) (ps qs : List Piece) (w : World) (hE : Env ea w) (hX : WalkX w gx lx ps) (hY : WalkX w gy ly qs) (hp : Can ps) (hne : gx ≠ gy) (hk : ¬ (kindP qs = 1 ∨ kindP qs = 2)) (hd : kindP ps = 4) :
    Calls Tryz.prog 146 #[.pointer (some ⟨gx, 0, none⟩), .pointer (some ⟨gy, 0, none⟩)] w fun e w' => ∃ pv lb', e = .returned (.tuple #[pv, .nilIface, .nilIface]) ∧ PieceV w' (nextP ps (leftP ps)).1 pv ∧ WalkX w' gx lb' (nextP ps (leftP ps)).2 ∧ WalkX w' gy ly qs ∧
      (∀ b, lb' = some b → lx = some b ∨ w.heap.size ≤ b) ∧ Kg (fun b => b = gx) wkT w w' := by
  obtain ⟨h1, h2⟩ := hp.left
  obtain ⟨L, hL⟩ : ∃ L, leftP ps = L := ⟨_, rfl⟩
  rw [hL] at h1 h2 ⊢
  have HL := Lib.hid hL; clear hL
  have HK := Lib.hid (show decide (kindP qs = 1 ∨ kindP qs = 2) = false from decide_eq_false hk); clear hk
  have HD := Lib.hid hd; clear hd
  go_enter Tryz.func146, Tryz.ntmps146
  go_wp2_with (first
    | (go_at_call 168; refine (winserts_any gy ly qs _ (hY.gr (by repeat (with_reducible first | assumption | exact Gr.refl _ | apply Gr.alloc | apply Gr.drewN | apply Gr.drew | apply Gr.iter | (refine Gr.setCell ?_ (by simp) _) | (refine Gr.trans ?_ (by assumption)))))).mono ?_; rw [HK.out]; rintro e w1 ⟨rfl, hg1⟩)
    | (go_at_call 170; refine (wkindw_any gx lx ps _ (hX.gr (by repeat (with_reducible first | assumption | exact Gr.refl _ | apply Gr.alloc | apply Gr.drewN | apply Gr.drew | apply Gr.iter | (refine Gr.setCell ?_ (by simp) _) | (refine Gr.trans ?_ (by assumption)))))).mono ?_; rw [HD.out]; rintro e wk ⟨rfl, hgk⟩)
    | (go_at_call 169; refine (wleft_any gx lx ps _ (hX.gr (by repeat (with_reducible first | assumption | exact Gr.refl _ | apply Gr.alloc | apply Gr.drewN | apply Gr.drew | apply Gr.iter | (refine Gr.setCell ?_ (by simp) _) | (refine Gr.trans ?_ (by assumption)))))).mono ?_; rw [HL.out]; rintro e w2 ⟨rfl, hg2⟩)
    | (go_at_call 127; refine (wnext_int gx lx ps L _ (hE.gr (by repeat (with_reducible first | assumption | exact Gr.refl _ | apply Gr.alloc | apply Gr.drewN | apply Gr.drew | apply Gr.iter | (refine Gr.setCell ?_ (by simp) _) | (refine Gr.trans ?_ (by assumption))))) (hX.gr (by repeat (with_reducible first | assumption | exact Gr.refl _ | apply Gr.alloc | apply Gr.drewN | apply Gr.drew | apply Gr.iter | (refine Gr.setCell ?_ (by simp) _) | (refine Gr.trans ?_ (by assumption))))) hp.ok h1 (by omega)).mono ?_; rintro e w3 ⟨pv, lb', rfl, hp3, hw3, hl3, hk3⟩))
  go_ret3
  have hg : Gr w w2 := (by repeat (with_reducible first | assumption | exact Gr.refl _ | apply Gr.alloc | apply Gr.drewN | apply Gr.drew | apply Gr.iter | (refine Gr.setCell ?_ (by simp) _) | (refine Gr.trans ?_ (by assumption))))
  refine ⟨pv, lb', rfl, hp3, hw3, (hY.gr hg).kg hk3 (by decide) (.inl (by decide)) (.inr fun e => hne e.symm), fun b hb => (hl3 b hb).imp id fun h => Nat.le_trans hg.size h, (Kg.of_gr hg).trans hk3⟩

end Ve
/- Walks: walk.step, both sides. -/
namespace Ve
open Go Go.RowKit Go.Proofs


set_option maxRecDepth 4000 in
set_option maxHeartbeats 4000000 in
theorem wstep_two {ea : Nat → Addr} (gx gy : Nat) (lx ly : Option Nat) (ps qs : List Piece) (w : World) (hE : Env ea w) (hX : WalkX w gx lx ps) (hY : WalkX w gy ly qs) (hp : Can ps) (hq : Can qs) (hne : gx ≠ gy) (hk : ¬ (kindP qs = 1 ∨ kindP qs = 2)) (hd : kindP ps ≠ 4) (hEs : ∀ w', Kg (fun b => b = gx) wkT w w' → Env ea w') :
    Calls Tryz.prog 146 #[.pointer (some ⟨gx, 0, none⟩), .pointer (some ⟨gy, 0, none⟩)] w fun e w' => ∃ pv qv lb' lb'', e = .returned (.tuple #[pv, qv, .nilIface]) ∧ PieceV w' (nextP ps (min (leftP ps) (leftP qs))).1 pv ∧ PieceV w' (nextP qs (min (leftP ps) (leftP qs))).1 qv ∧
      WalkX w' gx lb' (nextP ps (min (leftP ps) (leftP qs))).2 ∧ WalkX w' gy lb'' (nextP qs (min (leftP ps) (leftP qs))).2 ∧
      (∀ b, lb' = some b → lx = some b ∨ w.heap.size ≤ b) ∧ (∀ b, lb'' = some b → ly = some b ∨ w.heap.size ≤ b) ∧ Kg (fun b => b = gx ∨ b = gy) wkT w w' := by
  obtain ⟨h1, h2⟩ := hp.left
  obtain ⟨h3, h4⟩ := hq.left
  obtain ⟨L, hL⟩ : ∃ L, leftP ps = L := ⟨_, rfl⟩
  obtain ⟨M, hM⟩ : ∃ M, leftP qs = M := ⟨_, rfl⟩
  rw [hL] at h1 h2 ⊢
  rw [hM] at h3 h4 ⊢
  have HL := Lib.hid hL; clear hL
  have HM := Lib.hid hM; clear hM
  have HK := Lib.hid (show decide (kindP qs = 1 ∨ kindP qs = 2) = false from decide_eq_false hk); clear hk
  obtain ⟨K, hK⟩ : ∃ K, kindP ps = K := ⟨_, rfl⟩
  rw [hK] at hd
  have hd4 : (K == 4) = false := by simpa using hd
  have HD := Lib.hid hK; clear hK hd
  go_enter Tryz.func146, Tryz.ntmps146
  go_wp2_with (first
    | (go_at_call 168; refine (winserts_any gy ly qs _ (hY.gr (by repeat (with_reducible first | assumption | exact Gr.refl _ | apply Gr.alloc | apply Gr.drewN | apply Gr.drew | apply Gr.iter | (refine Gr.setCell ?_ (by simp) _) | (refine Gr.trans ?_ (by assumption)))))).mono ?_; rw [HK.out]; rintro e w1 ⟨rfl, hg1⟩)
    | (go_at_call 170; refine (wkindw_any gx lx ps _ (hX.gr (by repeat (with_reducible first | assumption | exact Gr.refl _ | apply Gr.alloc | apply Gr.drewN | apply Gr.drew | apply Gr.iter | (refine Gr.setCell ?_ (by simp) _) | (refine Gr.trans ?_ (by assumption)))))).mono ?_; rw [HD.out]; rintro e wk ⟨rfl, hgk⟩)
    | (go_at_call 169; have _h := hg2; refine (wleft_any gy ly qs _ (hY.gr (by repeat (with_reducible first | assumption | exact Gr.refl _ | apply Gr.alloc | apply Gr.drewN | apply Gr.drew | apply Gr.iter | (refine Gr.setCell ?_ (by simp) _) | (refine Gr.trans ?_ (by assumption)))))).mono ?_; rw [HM.out]; rintro e w4 ⟨rfl, hg4⟩)
    | (go_at_call 169; refine (wleft_any gx lx ps _ (hX.gr (by repeat (with_reducible first | assumption | exact Gr.refl _ | apply Gr.alloc | apply Gr.drewN | apply Gr.drew | apply Gr.iter | (refine Gr.setCell ?_ (by simp) _) | (refine Gr.trans ?_ (by assumption)))))).mono ?_; rw [HL.out]; rintro e w2 ⟨rfl, hg2⟩)
    | (go_at_call 127; have _h := hk5; refine (wnext_int gy ly qs (min L M) _ (hE5.gr (by repeat (with_reducible first | assumption | exact Gr.refl _ | apply Gr.alloc | apply Gr.drewN | apply Gr.drew | apply Gr.iter | (refine Gr.setCell ?_ (by simp) _) | (refine Gr.trans ?_ (by assumption))))) (hY5.gr (by repeat (with_reducible first | assumption | exact Gr.refl _ | apply Gr.alloc | apply Gr.drewN | apply Gr.drew | apply Gr.iter | (refine Gr.setCell ?_ (by simp) _) | (refine Gr.trans ?_ (by assumption))))) hq.ok (by omega) (by omega)).mono ?_; rintro e w6 ⟨qv, lb'', rfl, hp6, hw6, hl6, hk6⟩)
    | (go_at_call 127; refine (wnext_int gx lx ps (min L M) _ (hE.gr (by repeat (with_reducible first | assumption | exact Gr.refl _ | apply Gr.alloc | apply Gr.drewN | apply Gr.drew | apply Gr.iter | (refine Gr.setCell ?_ (by simp) _) | (refine Gr.trans ?_ (by assumption))))) (hX.gr (by repeat (with_reducible first | assumption | exact Gr.refl _ | apply Gr.alloc | apply Gr.drewN | apply Gr.drew | apply Gr.iter | (refine Gr.setCell ?_ (by simp) _) | (refine Gr.trans ?_ (by assumption))))) hp.ok (by omega) (by omega)).mono ?_; rintro e w5 ⟨pv, lb', rfl, hp5, hw5, hl5, hk5⟩; have hg : Gr w w4 := (by repeat (with_reducible first | assumption | exact Gr.refl _ | apply Gr.alloc | apply Gr.drewN | apply Gr.drew | apply Gr.iter | (refine Gr.setCell ?_ (by simp) _) | (refine Gr.trans ?_ (by assumption)))); have hY5 := (hY.gr hg).kg hk5 (by decide) (.inl (by decide)) (.inr fun e => hne e.symm); have hE5 := hEs w5 ((Kg.of_gr hg).trans hk5)))
  go_ret3
  refine ⟨pv, qv, lb', lb'', rfl, PieceV.kg hp5 hk6 (by decide), hp6, hw5.kg hk6 (by decide) (.inl (by decide)) (.inr hne), hw6, fun b hb => (hl5 b hb).imp id fun h => Nat.le_trans hg.size h, fun b hb => (hl6 b hb).imp id fun h => Nat.le_trans (Nat.le_trans hg.size hk5.size) h, (((Kg.of_gr hg).trans hk5).sub fun b h => .inl h).trans (hk6.sub fun b h => .inr h)⟩

end Ve
