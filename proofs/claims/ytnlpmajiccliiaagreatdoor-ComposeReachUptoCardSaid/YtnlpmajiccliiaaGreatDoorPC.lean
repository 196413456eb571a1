/- Plain laws: lengths of what composing makes. -/
import Derived.Test.YtnlpmajiccliiaaGreatDoorPB
import Derived.Test.YtnlpmajiccliiaaGreatDoorM2
set_option linter.all false
namespace Ve
open Go Go.RowKit Go.Proofs

theorem isum_app (l m : List Piece) : isum (l ++ m) = isum l + isum m := by simp [isum]
theorem dsum_app (l m : List Piece) : dsum (l ++ m) = dsum l + dsum m := by simp [dsum]
theorem next_id {ps : List Piece} {n : Int} (hne : ps ≠ []) (h1 : 1 ≤ n) : (nextP ps n).1.i + isum (nextP ps n).2 = isum ps ∧ (nextP ps n).1.d + dsum (nextP ps n).2 = dsum ps := by
  cases ps with
  | nil => exact absurd rfl hne
  | cons p r =>
    simp only [nextP]
    split
    · simp only [isum_cons, dsum_cons, and_self]
    · rename_i hc
      simp only [isum_cons, dsum_cons]
      cases p with
      | ins a t m => simp only [cutP, Piece.i, Piece.d]; omega
      | emb a k v => simp only [Piece.len] at hc; omega
      | ret a m => simp only [cutP, Piece.i, Piece.d]; omega
      | del m => simp only [cutP, Piece.i, Piece.d]; omega
theorem both_sums {p q : Piece} (hp : pOk p) (hl : p.len = q.len) (h4 : p.k ≠ 4) (h3 : q.k = 3 ∨ q.k = 4) (h0 : 0 ≤ p.len) :
    bsum ((bothP p q).map toPiece) = p.b ∧ rsum ((bothP p q).map toPiece) ≤ q.r ∧ isum ((bothP p q).map toPiece) ≤ p.i ∧ dsum ((bothP p q).map toPiece) ≤ q.d := by
  cases q with
  | ins a t n => simp [Piece.k] at h3
  | emb a k x => simp [Piece.k] at h3
  | ret l n =>
    cases p with
    | ins a t m =>
      have e := hp.2
      simp only [Piece.len] at *
      simp [Piece.op, toPiece] at e
      simp [bothP, isRetP, bsum, rsum, isum, dsum, Piece.op, toPiece, Piece.b, Piece.r, Piece.i, Piece.d]
      omega
    | emb a k x =>
      simp only [Piece.len] at *
      simp [bothP, isRetP, bsum, rsum, isum, dsum, Piece.op, toPiece, Piece.b, Piece.r, Piece.i, Piece.d]
      omega
    | ret a m =>
      simp only [Piece.len] at *
      simp [bothP, isRetP, bsum, rsum, isum, dsum, Piece.op, toPiece, Piece.b, Piece.r, Piece.i, Piece.d]
      omega
    | del m => exact absurd rfl h4
  | del n =>
    cases p with
    | ins a t m => simp only [Piece.len] at *; simp [bothP, isRetP, bsum, rsum, isum, dsum, Piece.b, Piece.r, Piece.i, Piece.d]; omega
    | emb a k x => simp only [Piece.len] at *; simp [bothP, isRetP, bsum, rsum, isum, dsum, Piece.b, Piece.r, Piece.i, Piece.d]; omega
    | ret a m => simp only [Piece.len] at *; simp [bothP, isRetP, bsum, rsum, isum, dsum, Piece.b, Piece.r, Piece.i, Piece.d, toPiece]; omega
    | del m => exact absurd rfl h4
/-- Sums of what two scripts put down. -/
def DnS (X ps qs : List Piece) : Prop := bsum X ≤ bsum ps + max 0 (bsum qs - rsum ps) ∧ rsum X ≤ rsum ps + rsum qs ∧ isum X ≤ isum ps + isum qs ∧ dsum X ≤ dsum ps + dsum qs
theorem len_br {p : Piece} : (p.k = 1 ∨ p.k = 2 → p.b = 0 ∧ p.r = p.len ∧ p.i = p.len ∧ p.d = 0) ∧ (p.k = 3 → p.b = p.len ∧ p.r = p.len ∧ p.i = 0 ∧ p.d = 0) ∧ (p.k = 4 → p.b = p.len ∧ p.r = 0 ∧ p.i = 0 ∧ p.d = p.len) := by
  cases p <;> simp [Piece.k, Piece.b, Piece.r, Piece.i, Piece.d, Piece.len]
theorem ps_nn {ps : List Piece} (h : PsOk ps) : 0 ≤ bsum ps ∧ 0 ≤ rsum ps ∧ 0 ≤ isum ps ∧ 0 ≤ dsum ps := by
  obtain ⟨h1, h2, h3, h4, h5⟩ := sums_nn h.nn
  exact ⟨by omega, by omega, h1, h3⟩
theorem one_sums (p : Piece) : bsum [p] = p.b ∧ rsum [p] = p.r ∧ isum [p] = p.i ∧ dsum [p] = p.d := by simp [bsum, rsum, isum, dsum]
theorem dn_left {X P Q' : List Piece} {q p : Piece} {qs : List Piece} (s2 : rsum X ≤ q.r) (s3 : isum X ≤ p.i) (s4 : dsum X ≤ q.d) (h1 : bsum P ≤ bsum [] + max 0 (bsum Q' - rsum []) ∧ rsum P ≤ rsum [] + rsum Q' ∧ isum P ≤ isum [] + isum Q' ∧ dsum P ≤ dsum [] + dsum Q')
    (b : q.b + bsum Q' = bsum qs ∧ q.r + rsum Q' = rsum qs) (i : q.i + isum Q' = isum qs ∧ q.d + dsum Q' = dsum qs) (z : p.i = 0 ∧ p.d = 0 ∧ p.b = p.len) (hqb : q.b = q.len) (h4 : p.len = q.len) (nQ : 0 ≤ bsum Q' ∧ 0 ≤ rsum Q' ∧ 0 ≤ isum Q' ∧ 0 ≤ dsum Q') (q1 : 0 ≤ bsum qs) (hi : 0 ≤ q.i ∧ 0 ≤ p.d ∧ 0 ≤ p.r ∧ 0 ≤ q.r) :
    p.b + bsum P ≤ bsum [] + max 0 (bsum qs - rsum []) ∧ rsum X + rsum P ≤ rsum [] + rsum qs ∧ isum X + isum P ≤ isum [] + isum qs ∧ dsum X + dsum P ≤ dsum [] + dsum qs := by
  have e1 : bsum ([] : List Piece) = 0 := rfl
  have e2 : rsum ([] : List Piece) = 0 := rfl
  have e3 : isum ([] : List Piece) = 0 := rfl
  have e4 : dsum ([] : List Piece) = 0 := rfl
  omega
theorem dn_right {X P P' : List Piece} {q p : Piece} {ps : List Piece} (s2 : rsum X ≤ q.r) (s3 : isum X ≤ p.i) (s4 : dsum X ≤ q.d) (h1 : bsum P ≤ bsum P' + max 0 (bsum [] - rsum P') ∧ rsum P ≤ rsum P' + rsum [] ∧ isum P ≤ isum P' + isum [] ∧ dsum P ≤ dsum P' + dsum [])
    (b : p.b + bsum P' = bsum ps ∧ p.r + rsum P' = rsum ps) (i : p.i + isum P' = isum ps ∧ p.d + dsum P' = dsum ps) (z : q.i = 0 ∧ q.d = 0 ∧ q.r = q.len) (hpr : p.r = p.len) (hb : 0 ≤ p.b) (h4 : p.len = q.len) (nP : 0 ≤ bsum P' ∧ 0 ≤ rsum P' ∧ 0 ≤ isum P' ∧ 0 ≤ dsum P') (hi : 0 ≤ q.i ∧ 0 ≤ p.d ∧ 0 ≤ p.r ∧ 0 ≤ q.r) :
    p.b + bsum P ≤ bsum ps + max 0 (bsum [] - rsum ps) ∧ rsum X + rsum P ≤ rsum ps + rsum [] ∧ isum X + isum P ≤ isum ps + isum [] ∧ dsum X + dsum P ≤ dsum ps + dsum [] := by
  have e1 : bsum ([] : List Piece) = 0 := rfl
  have e2 : rsum ([] : List Piece) = 0 := rfl
  have e3 : isum ([] : List Piece) = 0 := rfl
  have e4 : dsum ([] : List Piece) = 0 := rfl
  omega
theorem dn_two {X P P' Q' : List Piece} {q p : Piece} {ps qs : List Piece} (s2 : rsum X ≤ q.r) (s3 : isum X ≤ p.i) (s4 : dsum X ≤ q.d) (h1 : bsum P ≤ bsum P' + max 0 (bsum Q' - rsum P') ∧ rsum P ≤ rsum P' + rsum Q' ∧ isum P ≤ isum P' + isum Q' ∧ dsum P ≤ dsum P' + dsum Q')
    (b : p.b + bsum P' = bsum ps ∧ p.r + rsum P' = rsum ps) (i : p.i + isum P' = isum ps ∧ p.d + dsum P' = dsum ps) (b' : q.b + bsum Q' = bsum qs ∧ q.r + rsum Q' = rsum qs) (i' : q.i + isum Q' = isum qs ∧ q.d + dsum Q' = dsum qs) (hpr : p.r = p.len) (hqb : q.b = q.len) (h4 : p.len = q.len) (hi : 0 ≤ q.i ∧ 0 ≤ p.d ∧ 0 ≤ p.r ∧ 0 ≤ q.r) :
    p.b + bsum P ≤ bsum ps + max 0 (bsum qs - rsum ps) ∧ rsum X + rsum P ≤ rsum ps + rsum qs ∧ isum X + isum P ≤ isum ps + isum qs ∧ dsum X + dsum P ≤ dsum ps + dsum qs := by
  omega
theorem down_sums : ∀ (N : Nat) (ps qs : List Piece), Can ps → Can qs → ps.length + qs.length ≤ N → DnS (((stepsP N ps qs).flatMap downS).map toPiece) ps qs := by
  intro N
  induction N with
  | zero =>
    intro ps qs _ _ hN
    obtain rfl : ps = [] := List.eq_nil_of_length_eq_zero (by omega)
    obtain rfl : qs = [] := List.eq_nil_of_length_eq_zero (by omega)
    simp [stepsP, DnS, bsum, rsum, isum, dsum]
  | succ N ih =>
    intro ps qs hp hq hN
    by_cases he : ps = [] ∧ qs = []
    · obtain ⟨rfl, rfl⟩ := he
      simp [stepsP, DnS, bsum, rsum, isum, dsum]
    · obtain ⟨c1, c2⟩ := step_can hp hq
      have hlen := step_len hp hq he
      have h1 := ih _ _ c1 c2 (by omega)
      obtain ⟨l1, l2⟩ := hp.left
      obtain ⟨l3, l4⟩ := hq.left
      simp only [stepsP]
      rw [if_neg he, List.flatMap_cons, List.map_append]
      unfold DnS at h1 ⊢
      rw [bsum_app, rsum_app, isum_app, dsum_app]
      obtain ⟨p1, p2, p3, p4⟩ := ps_nn hp.ok
      obtain ⟨q1, q2, q3, q4⟩ := ps_nn hq.ok
      by_cases k1 : kindP qs = 1 ∨ kindP qs = 2
      · rw [stepP_ins k1] at h1 ⊢
        have hok := (next_ok hq.ok l3).1
        have hk : (nextP qs (leftP qs)).1.k = 1 ∨ (nextP qs (leftP qs)).1.k = 2 := by rw [next_k]; exact k1
        have hne : qs ≠ [] := by rintro rfl; simp [kindP] at k1
        obtain ⟨b1, b2⟩ := next_br hne l3
        obtain ⟨i1, i2⟩ := next_id hne l3
        obtain ⟨t1, t2, t3, t4⟩ := len_br.1 hk
        simp only [downS, List.map_cons, List.map_nil, hok.2]
        obtain ⟨o1, o2, o3, o4⟩ := one_sums (nextP qs (leftP qs)).1
        rw [o1, o2, o3, o4]
        simp only at h1
        omega
      · by_cases k2 : kindP ps = 4
        · rw [stepP_del k1 k2] at h1 ⊢
          have hok := (next_ok hp.ok l1).1
          have hk : (nextP ps (leftP ps)).1.k = 4 := by rw [next_k]; exact k2
          have hne : ps ≠ [] := by rintro rfl; simp [kindP] at k2
          obtain ⟨b1, b2⟩ := next_br hne l1
          obtain ⟨i1, i2⟩ := next_id hne l1
          obtain ⟨t1, t2, t3, t4⟩ := len_br.2.2 hk
          simp only [downS, List.map_cons, List.map_nil, hok.2]
          obtain ⟨o1, o2, o3, o4⟩ := one_sums (nextP ps (leftP ps)).1
          rw [o1, o2, o3, o4]
          simp only at h1
          omega
        · rw [stepP_two k1 k2] at h1 ⊢
          have e1 : 1 ≤ min (leftP ps) (leftP qs) := by omega
          have hso := step_ok hp hq
          rw [stepP_two k1 k2] at hso
          obtain ⟨n, hn⟩ : ∃ n, min (leftP ps) (leftP qs) = n := ⟨_, rfl⟩
          rw [hn] at h1 hso e1 ⊢
          have b := fun h => next_br (ps := ps) (n := n) h e1
          have i := fun h => next_id (ps := ps) (n := n) h e1
          have b' := fun h => next_br (ps := qs) (n := n) h e1
          have i' := fun h => next_id (ps := qs) (n := n) h e1
          have nP := ps_nn (next_ok hp.ok e1).2.1
          have nQ := ps_nn (next_ok hq.ok e1).2.1
          have hcq : ps = [] → qs ≠ [] := fun e e' => he ⟨e, e'⟩
          have hP0 : ps = [] → (nextP ps n).1.k = 3 ∧ (nextP ps n).2 = [] := by rintro rfl; exact ⟨rfl, rfl⟩
          have hQ0 : qs = [] → (nextP qs n).1.k = 3 ∧ (nextP qs n).2 = [] := by rintro rfl; exact ⟨rfl, rfl⟩
          rcases hso with ⟨q, e, -⟩ | ⟨p, e, -⟩ | ⟨p, q, e, h2, h3, h4, h5, h6⟩
          · simp at e
          · simp at e
          · simp only [Prod.mk.injEq, Option.some.injEq] at e
            obtain ⟨e2, e3⟩ := e
            simp only [downS]
            simp only at h1
            have hl0 : 0 ≤ p.len := by
              have := unitsP_len h2
              omega
            obtain ⟨s1, s2, s3, s4⟩ := both_sums h2 h4 h5 h6 hl0
            rw [e2] at b i hP0
            rw [e3] at b' i' hQ0
            rw [e2, e3, s1]
            have tp := len_br (p := p)
            have tq := len_br (p := q)
            have kp := k_cases p
            have hpr : p.r = p.len := by
              rcases kp with k | k | k | k
              · exact (tp.1 (.inl k)).2.1
              · exact (tp.1 (.inr k)).2.1
              · exact (tp.2.1 k).2.1
              · exact absurd k h5
            have hqb : q.b = q.len := by
              rcases h6 with k | k
              · exact (tq.2.1 k).1
              · exact (tq.2.2 k).1
            have hqr : 0 ≤ q.r ∧ q.r ≤ q.len ∧ (q.k = 3 → q.i = 0 ∧ q.d = 0 ∧ q.r = q.len) := by
              rcases h6 with k | k
              · have := tq.2.1 k; exact ⟨by omega, by omega, fun _ => ⟨by omega, by omega, by omega⟩⟩
              · have := tq.2.2 k; exact ⟨by omega, by omega, fun h => by omega⟩
            have hqi : 0 ≤ q.i ∧ 0 ≤ p.d ∧ 0 ≤ p.r ∧ 0 ≤ q.r := by
              refine ⟨?_, ?_, by omega, hqr.1⟩
              · rcases h6 with k | k
                · have := tq.2.1 k; omega
                · have := tq.2.2 k; omega
              · rcases kp with k | k | k | k
                · have := tp.1 (.inl k); omega
                · have := tp.1 (.inr k); omega
                · have := tp.2.1 k; omega
                · exact absurd k h5
            have hpb : 0 ≤ p.b ∧ (p.k = 3 → p.i = 0 ∧ p.d = 0 ∧ p.b = p.len) := by
              rcases kp with k | k | k | k
              · have := tp.1 (.inl k); exact ⟨by omega, fun h => by omega⟩
              · have := tp.1 (.inr k); exact ⟨by omega, fun h => by omega⟩
              · have := tp.2.1 k; exact ⟨by omega, fun h => ⟨by omega, by omega, by omega⟩⟩
              · exact absurd k h5
            by_cases cp : ps = []
            · obtain ⟨x1, x2⟩ := hP0 cp
              have z := hpb.2 x1
              rw [x2] at h1 ⊢
              have cq := hcq cp
              subst cp
              exact dn_left s2 s3 s4 h1 (b' cq) (i' cq) z hqb h4 nQ q1 hqi
            · by_cases cq : qs = []
              · obtain ⟨x1, x2⟩ := hQ0 cq
                have z := hqr.2.2 x1
                rw [x2] at h1 ⊢
                subst cq
                exact dn_right s2 s3 s4 h1 (b cp) (i cp) z hpr hpb.1 h4 nP hqi
              · exact dn_two s2 s3 s4 h1 (b cp) (i cp) (b' cq) (i' cq) hpr hqb h4 hqi
theorem short_sums (l : List Op) (h : ∀ o ∈ l, checkOp o = 0) : bsum ((shortL l).map toPiece) ≤ bsum (l.map toPiece) ∧ rsum ((shortL l).map toPiece) ≤ rsum (l.map toPiece) ∧ isum ((shortL l).map toPiece) ≤ isum (l.map toPiece) ∧ dsum ((shortL l).map toPiece) ≤ dsum (l.map toPiece) := by
  obtain ⟨m, e, -⟩ := short_split l
  have hm : PsOk (m.map toPiece) := PsOk.of_ops fun o ho => h o (by rw [e]; simp [ho])
  obtain ⟨p1, p2, p3, p4⟩ := ps_nn hm
  have e1 : l.map toPiece = (shortL l).map toPiece ++ m.map toPiece := by conv => lhs; rw [e, List.map_append]
  rw [e1, bsum_app, rsum_app, isum_app, dsum_app]
  omega
/-! Sums of what a builder makes. -/
theorem joinTo_id {q p r : Piece} (h : joinTo q p = some r) : r.i = q.i + p.i ∧ r.d = q.d + p.d := by
  cases q <;> cases p <;> simp [joinTo] at h
  all_goals (obtain ⟨-, rfl⟩ := h; simp [Piece.i, Piece.d])
theorem joined_id (l : List Piece) (p : Piece) : isum (joinedL l p) = isum l + p.i ∧ dsum (joinedL l p) = dsum l + p.d := by
  rcases snoc_cases l with rfl | ⟨m, q, rfl⟩
  · simp [joinedL, isum, dsum]
  · rw [joinedL_snoc]
    cases hj : joinTo q p with
    | none => simp only [isum, dsum, List.map_append, List.map_cons, List.map_nil, List.sum_append, List.sum_cons, List.sum_nil]; omega
    | some r =>
      obtain ⟨e1, e2⟩ := joinTo_id hj
      simp only [isum, dsum, List.map_append, List.map_cons, List.map_nil, List.sum_append, List.sum_cons, List.sum_nil, e1, e2]; omega
theorem deleted_id (l : List Piece) (g : Int) : isum (deletedL l g) = isum l ∧ dsum (deletedL l g) = dsum l + g := by
  unfold deletedL
  split
  · rename_i h; subst h; simp
  · simp [isum, dsum, Piece.i, Piece.d]
theorem put_id (s : Bld) (p : Piece) : isum (s.put p).pieces = isum s.pieces + p.i ∧ dsum (s.put p).pieces + (s.put p).gone = dsum s.pieces + s.gone + p.d := by
  cases p with
  | del n =>
    show isum s.pieces = isum s.pieces + 0 ∧ dsum s.pieces + (s.gone + n) = dsum s.pieces + s.gone + n
    omega
  | ret a n =>
    obtain ⟨a1, a2⟩ := joined_id (deletedL s.pieces s.gone) (.ret a n)
    obtain ⟨b1, b2⟩ := deleted_id s.pieces s.gone
    show isum (joinedL (deletedL s.pieces s.gone) (.ret a n)) = isum s.pieces + 0 ∧ dsum (joinedL (deletedL s.pieces s.gone) (.ret a n)) + 0 = dsum s.pieces + s.gone + 0
    have e1 : (Piece.ret a n).i = 0 := rfl
    have e2 : (Piece.ret a n).d = 0 := rfl
    omega
  | ins a t n =>
    obtain ⟨a1, a2⟩ := joined_id s.pieces (.ins a t n)
    show isum (joinedL s.pieces (.ins a t n)) = isum s.pieces + (Piece.ins a t n).i ∧ dsum (joinedL s.pieces (.ins a t n)) + s.gone = dsum s.pieces + s.gone + (Piece.ins a t n).d
    omega
  | emb a k v =>
    obtain ⟨a1, a2⟩ := joined_id s.pieces (.emb a k v)
    show isum (joinedL s.pieces (.emb a k v)) = isum s.pieces + (Piece.emb a k v).i ∧ dsum (joinedL s.pieces (.emb a k v)) + s.gone = dsum s.pieces + s.gone + (Piece.emb a k v).d
    omega
theorem putAll_id (l : List Op) : ∀ (s : Bld), isum (putAll s l).pieces = isum s.pieces + isum (l.map toPiece) ∧ dsum (putAll s l).pieces + (putAll s l).gone = dsum s.pieces + s.gone + dsum (l.map toPiece) := by
  induction l with
  | nil => intro s; simp [putAll, isum, dsum]
  | cons o l ih =>
    intro s
    obtain ⟨h1, h2⟩ := ih (s.put (toPiece o))
    obtain ⟨h3, h4⟩ := put_id s (toPiece o)
    unfold putAll at h1 h2 ⊢
    rw [List.foldl_cons, h1, List.map_cons, isum_cons, dsum_cons]
    omega
theorem trimmed_id (l : List Piece) : isum (trimmed l) = isum l ∧ dsum (trimmed l) = dsum l := by
  unfold trimmed
  split
  · rename_i n h
    rcases snoc_cases l with rfl | ⟨m, q, rfl⟩
    · simp at h
    · simp at h
      subst h
      simp [isum, dsum, Piece.i, Piece.d]
  · exact ⟨rfl, rfl⟩
theorem made_id (l : List Op) : isum (putAll .new l).delta = isum (l.map toPiece) ∧ dsum (putAll .new l).delta = dsum (l.map toPiece) := by
  obtain ⟨h1, h2⟩ := putAll_id l .new
  obtain ⟨h3, h4⟩ := trimmed_id (deletedL (putAll .new l).pieces (putAll .new l).gone)
  obtain ⟨h5, h6⟩ := deleted_id (putAll .new l).pieces (putAll .new l).gone
  have e1 : isum (Bld.new).pieces = 0 := rfl
  have e2 : dsum (Bld.new).pieces = 0 := rfl
  have e3 : (Bld.new).gone = 0 := rfl
  unfold Bld.delta
  omega
/-- Sums of what composing makes, and when it is refused. -/
theorem comp_sums {ps qs : List Piece} (hp : Can ps) (hq : Can qs) :
    sumB (compL ps qs) ≤ bsum ps + max 0 (bsum qs - rsum ps) ∧ sumR (compL ps qs) ≤ rsum ps + rsum qs ∧ bsum (putAll .new (compL ps qs)).delta = sumB (compL ps qs) ∧
      isum (putAll .new (compL ps qs)).delta ≤ isum ps + isum qs ∧ dsum (putAll .new (compL ps qs)).delta ≤ dsum ps + dsum qs := by
  have hd := down_ok hp hq
  have hs : ∀ o ∈ compL ps qs, checkOp o = 0 := fun o ho => hd o (short_mem ho)
  obtain ⟨a1, a2, a3, a4⟩ := down_sums (ps.length + qs.length) ps qs hp hq (Nat.le_refl _)
  obtain ⟨b1, b2, b3, b4⟩ := short_sums _ hd
  obtain ⟨-, c2, -⟩ := delta_len_w hs (short_ends _)
  obtain ⟨d1, d2⟩ := made_id (compL ps qs)
  have e1 := bsum_map hs
  have e2 := rsum_map hs
  unfold compL downP at *
  refine ⟨by omega, by omega, c2, by omega, by omega⟩
theorem comp_nil_fits {ps : List Piece} (hp : Can ps) : catE (compL ps []) = 0 ∧ catE (compL [] ps) = 0 := by
  obtain ⟨a1, a2, -⟩ := comp_sums hp can_nil
  obtain ⟨b1, b2, -⟩ := comp_sums can_nil hp
  obtain ⟨p1, p2, p3, p4⟩ := ps_nn hp.ok
  have h1 := hp.b
  have h2 := hp.r
  have e1 : bsum ([] : List Piece) = 0 := rfl
  have e2 : rsum ([] : List Piece) = 0 := rfl
  unfold catE
  exact ⟨if_pos (by omega), if_pos (by omega)⟩
end Ve
