/- Plain laws: what the steps' pieces of each side are, put together. -/
import Derived.Test.YtnlpmajiccliiaaGreatDoorRN
set_option linter.all false
namespace Ve
open Go Go.RowKit Go.Proofs

theorem put_plain (s : Bld) (n : Int) : (s.put (.ret [] n)).delta = s.delta := by
  unfold Bld.delta
  simp only [Bld.put]
  rw [show deletedL (joinedL (deletedL s.pieces s.gone) (.ret [] n)) 0 = joinedL (deletedL s.pieces s.gone) (.ret [] n) from rfl]
  generalize deletedL s.pieces s.gone = D
  rcases snoc_cases D with rfl | ⟨m, q, rfl⟩
  · rfl
  · rw [joinedL_snoc]
    cases q with
    | ret a k => cases a <;> simp [joinTo, trimmed]
    | ins a t k => simp [joinTo, trimmed]
    | emb a t v => simp [joinTo, trimmed]
    | del k => simp [joinTo, trimmed]
theorem stepP_ins {ps qs : List Piece} (h : kindP qs = 1 ∨ kindP qs = 2) : stepP ps qs = ((none, some (nextP qs (leftP qs)).1), ps, (nextP qs (leftP qs)).2) := by unfold stepP; rw [if_pos h]
theorem stepP_del {ps qs : List Piece} (h : ¬ (kindP qs = 1 ∨ kindP qs = 2)) (h2 : kindP ps = 4) : stepP ps qs = ((some (nextP ps (leftP ps)).1, none), (nextP ps (leftP ps)).2, qs) := by unfold stepP; rw [if_neg h, if_pos h2]
theorem stepP_two {ps qs : List Piece} (h : ¬ (kindP qs = 1 ∨ kindP qs = 2)) (h2 : ¬ kindP ps = 4) : stepP ps qs = ((some (nextP ps (min (leftP ps) (leftP qs))).1, some (nextP qs (min (leftP ps) (leftP qs))).1), (nextP ps (min (leftP ps) (leftP qs))).2, (nextP qs (min (leftP ps) (leftP qs))).2) := by unfold stepP; rw [if_neg h, if_neg h2]
theorem cut_br {p : Piece} {n : Int} (h : n < p.len) (h1 : 1 ≤ n) : (cutP p n).1.b + (cutP p n).2.b = p.b ∧ (cutP p n).1.r + (cutP p n).2.r = p.r := by
  cases p <;> simp only [cutP, Piece.b, Piece.r, Piece.len] at * <;> omega
theorem next_br {ps : List Piece} {n : Int} (hne : ps ≠ []) (h1 : 1 ≤ n) : (nextP ps n).1.b + bsum (nextP ps n).2 = bsum ps ∧ (nextP ps n).1.r + rsum (nextP ps n).2 = rsum ps := by
  cases ps with
  | nil => exact absurd rfl hne
  | cons p r =>
    simp only [nextP]
    split
    · exact ⟨(bsum_cons p r).symm, (rsum_cons p r).symm⟩
    · rename_i hl
      obtain ⟨e1, e2⟩ := cut_br (p := p) (n := n) (by omega) h1
      simp only [bsum_cons, rsum_cons]
      omega
/-- L is a script's pieces, cut anywhere, and behind them plain retains. -/
def Side (ps L : List Piece) : Prop :=
  ∃ (A : List Piece) (B : List Int), L = A ++ B.map (Piece.ret []) ∧ PsOk A ∧ (∀ n ∈ B, 1 ≤ n ∧ n ≤ 1099511627776) ∧ units A = units ps ∧ bsum A = bsum ps ∧ rsum A = rsum ps
theorem Side.nil : Side [] [] := ⟨[], [], rfl, by simp [PsOk], by simp, rfl, rfl, rfl⟩
theorem Side.take {ps L : List Piece} {n : Int} (hok : PsOk ps) (hne : ps ≠ []) (h1 : 1 ≤ n) (h : Side (nextP ps n).2 L) : Side ps ((nextP ps n).1 :: L) := by
  obtain ⟨A, B, rfl, ha, hb, hu, e1, e2⟩ := h
  obtain ⟨k1, -, -, -⟩ := next_ok hok h1
  obtain ⟨u1, u2, -⟩ := next_units hok hne h1
  obtain ⟨b1, b2⟩ := next_br hne h1
  refine ⟨(nextP ps n).1 :: A, B, rfl, ?_, hb, ?_, ?_, ?_⟩
  · intro p hp
    rcases List.mem_cons.1 hp with rfl | hp
    · exact k1
    · exact ha p hp
  · rw [units_cons, hu, u1, u2, List.take_append_drop]
  · rw [bsum_cons, e1, b1]
  · rw [rsum_cons, e2, b2]
theorem Side.fill {L : List Piece} {n : Int} (h1 : 1 ≤ n) (h2 : n ≤ 1099511627776) (h : Side [] L) : Side [] (.ret [] n :: L) := by
  obtain ⟨A, B, rfl, ha, hb, hu, e1, e2⟩ := h
  have hl := len_units ha
  rw [hu] at hl
  obtain rfl : A = [] := by
    cases A with
    | nil => rfl
    | cons x A => simp [units] at hl
  refine ⟨[], n :: B, rfl, ha, ?_, rfl, rfl, rfl⟩
  intro x hx
  rcases List.mem_cons.1 hx with rfl | hx
  · exact ⟨h1, h2⟩
  · exact hb x hx
theorem side_next {ps L : List Piece} {n : Int} (hok : PsOk ps) (h1 : 1 ≤ n) (h2 : n ≤ 1099511627776) (h : Side (nextP ps n).2 L) : Side ps ((nextP ps n).1 :: L) := by
  by_cases hne : ps = []
  · subst hne
    have e : (nextP [] n).1 = .ret [] n := by simp only [nextP]; rw [show min n 1099511627776 = n by omega]
    rw [e]
    exact Side.fill h1 h2 h
  · exact Side.take hok hne h1 h
theorem sides : ∀ (N : Nat) (ps qs : List Piece), Can ps → Can qs → ps.length + qs.length ≤ N → Side ps ((stepsP N ps qs).filterMap (·.1)) ∧ Side qs ((stepsP N ps qs).filterMap (·.2))
  | 0, ps, qs, _, _, hl => by
    obtain rfl : ps = [] := List.length_eq_zero_iff.1 (by omega)
    obtain rfl : qs = [] := List.length_eq_zero_iff.1 (by omega)
    exact ⟨Side.nil, Side.nil⟩
  | N + 1, ps, qs, hp, hq, hl => by
    simp only [stepsP]
    by_cases he : ps = [] ∧ qs = []
    · rw [if_pos he]
      obtain ⟨rfl, rfl⟩ := he
      exact ⟨Side.nil, Side.nil⟩
    · rw [if_neg he]
      obtain ⟨c1, c2⟩ := step_can hp hq
      have hlt := step_len hp hq he
      obtain ⟨i1, i2⟩ := sides N _ _ c1 c2 (by omega)
      obtain ⟨h1, h2⟩ := hp.left
      obtain ⟨h3, h4⟩ := hq.left
      clear c1 c2 hlt
      by_cases k1 : kindP qs = 1 ∨ kindP qs = 2
      · rw [stepP_ins k1] at i1 i2 ⊢
        exact ⟨i1, side_next hq.ok h3 h4 i2⟩
      · by_cases k2 : kindP ps = 4
        · rw [stepP_del k1 k2] at i1 i2 ⊢
          exact ⟨side_next hp.ok h1 h2 i1, i2⟩
        · rw [stepP_two k1 k2] at i1 i2 ⊢
          exact ⟨side_next hp.ok (by omega) (by omega) i1, side_next hq.ok (by omega) (by omega) i2⟩
theorem steps_len : ∀ (N : Nat) (ps qs : List Piece), (stepsP N ps qs).length ≤ N
  | 0, _, _ => by simp [stepsP]
  | N + 1, ps, qs => by
    simp only [stepsP]
    split
    · simp
    · have := steps_len N (stepP ps qs).2.1 (stepP ps qs).2.2
      simp only [List.length_cons]; omega
/-- What a step is. -/
def StepOk (x : Option Piece × Option Piece) : Prop :=
  (∃ q, x = (none, some q) ∧ pOk q ∧ (q.k = 1 ∨ q.k = 2)) ∨ (∃ p, x = (some p, none) ∧ pOk p ∧ p.k = 4) ∨ (∃ p q, x = (some p, some q) ∧ pOk p ∧ pOk q ∧ p.len = q.len ∧ p.k ≠ 4 ∧ (q.k = 3 ∨ q.k = 4))
theorem cut_k (p : Piece) (n : Int) : (cutP p n).1.k = p.k := by cases p <;> rfl
theorem next_k (ps : List Piece) (n : Int) : (nextP ps n).1.k = kindP ps := by
  cases ps with
  | nil => rfl
  | cons p r =>
    simp only [nextP]
    split
    · rfl
    · exact cut_k p n
theorem next_n {ps : List Piece} {n : Int} (hok : PsOk ps) (h1 : 1 ≤ n) (h2 : n ≤ leftP ps) : (nextP ps n).1.len = n := by
  cases ps with
  | nil => simp only [nextP, Piece.len, leftP] at h2 ⊢; omega
  | cons p r =>
    simp only [leftP] at h2
    simp only [nextP]
    split
    · simp only; omega
    · exact (cut_ok (hok p (by simp)) h1 (by omega)).2.2.1
theorem k_cases (p : Piece) : p.k = 1 ∨ p.k = 2 ∨ p.k = 3 ∨ p.k = 4 := by cases p <;> simp [Piece.k]
theorem kind_cases (ps : List Piece) : kindP ps = 1 ∨ kindP ps = 2 ∨ kindP ps = 3 ∨ kindP ps = 4 := by
  cases ps with
  | nil => simp [kindP]
  | cons p r => exact k_cases p
theorem step_ok {ps qs : List Piece} (hp : Can ps) (hq : Can qs) : StepOk (stepP ps qs).1 := by
  obtain ⟨h1, h2⟩ := hp.left
  obtain ⟨h3, h4⟩ := hq.left
  by_cases k1 : kindP qs = 1 ∨ kindP qs = 2
  · rw [stepP_ins k1]
    exact .inl ⟨_, rfl, (next_ok hq.ok h3).1, by rw [next_k]; exact k1⟩
  · by_cases k2 : kindP ps = 4
    · rw [stepP_del k1 k2]
      exact .inr (.inl ⟨_, rfl, (next_ok hp.ok h1).1, by rw [next_k]; exact k2⟩)
    · rw [stepP_two k1 k2]
      have e1 : 1 ≤ min (leftP ps) (leftP qs) := by omega
      refine .inr (.inr ⟨_, _, rfl, (next_ok hp.ok e1).1, (next_ok hq.ok e1).1, ?_, by rw [next_k]; exact k2, by rw [next_k]; have := kind_cases qs; omega⟩)
      rw [next_n hp.ok e1 (by omega), next_n hq.ok e1 (by omega)]
theorem steps_ok : ∀ (N : Nat) (ps qs : List Piece), Can ps → Can qs → ∀ x ∈ stepsP N ps qs, StepOk x
  | 0, _, _, _, _ => by simp [stepsP]
  | N + 1, ps, qs, hp, hq => by
    intro x hx
    simp only [stepsP] at hx
    split at hx
    · simp at hx
    · rcases List.mem_cons.1 hx with rfl | hx
      · exact step_ok hp hq
      · obtain ⟨c1, c2⟩ := step_can hp hq
        exact steps_ok N _ _ c1 c2 x hx
theorem putAll_app (s : Bld) (l m : List Op) : putAll s (l ++ m) = putAll (putAll s l) m := by simp [putAll]
theorem put_fill : ∀ (B : List Int) (s : Bld), (∀ n ∈ B, 1 ≤ n ∧ n ≤ 1099511627776) → (putAll s ((B.map (Piece.ret [])).map Piece.op)).delta = s.delta
  | [], _, _ => rfl
  | n :: B, s, h => by
    have hn := h n (by simp)
    have e : toPiece (Piece.ret [] n).op = .ret [] n := (ret_ok (a := []) (n := n)).2 ⟨hn.1, hn.2, rfl⟩ |>.2
    have : putAll s (((n :: B).map (Piece.ret [])).map Piece.op) = putAll (s.put (.ret [] n)) ((B.map (Piece.ret [])).map Piece.op) := by
      simp only [putAll, List.map_cons, List.foldl_cons, e]
    rw [this, put_fill B _ fun x hx => h x (by simp [hx]), put_plain]
theorem op_mem_size {l : List Op} {o : Op} (h : o ∈ l) : o.text.size ≤ opsum l := by
  induction l with
  | nil => simp at h
  | cons x l ih =>
    have e : opsum (x :: l) = x.text.size + opsum l := by simp [opsum]
    rw [e]
    rcases List.mem_cons.1 h with rfl | h
    · omega
    · have := ih h; omega
theorem Side.ok {ps L : List Piece} (h : Side ps L) : PsOk L := by
  obtain ⟨A, B, rfl, ha, hb, -⟩ := h
  intro p hp
  rcases List.mem_append.1 hp with hp | hp
  · exact ha p hp
  · obtain ⟨n, hn, rfl⟩ := List.mem_map.1 hp
    exact ret_ok.2 ⟨(hb n hn).1, (hb n hn).2, rfl⟩
theorem Side.canon {ps L : List Piece} (hp : Can ps) (h : Side ps L) (hz : tsum ps + 64 * L.length ≤ 1099511627776) (hz2 : tsum ps + 64 * ps.length ≤ 1099511627776) : canon06 (L.map Piece.op) = ps.map Piece.op ∧ opsum (L.map Piece.op) ≤ 1099511627776 := by
  have hok := h.ok
  rw [canon06_put hok.ops]
  obtain ⟨A, B, rfl, ha, hb, hu, e1, e2⟩ := h
  obtain ⟨s1, s2⟩ := sums_ps ha
  have hA : pushAll (A.map Piece.op) = (putAll .new (A.map Piece.op), 0, 0) := by
    refine push_fits ?_ ?_ ?_
    · intro o ho
      exact ⟨ha.ops o ho, ok_len (ha.ops o ho)⟩
    · rw [s1, e1]; have := hp.b; simp only [Bld.new]; omega
    · rw [s2, e2]; have := hp.r; simp only [Bld.new]; omega
  have tA : tsum A = tsum ps := by rw [tsum_usz ha, tsum_usz hp.ok, hu]
  have oA := opsum_ps ha
  have oP := opsum_ps hp.ok
  rw [tA] at oA
  rw [List.length_append] at hz
  obtain ⟨g1, g2, g3⟩ := pushAll_good (fun o ho => by have := op_mem_size ho; unfold szS; omega) hA
  obtain ⟨s, p1, p2⟩ := hp.push
  obtain ⟨q1, q2, q3⟩ := pushAll_good (fun o ho => by have := op_mem_size ho; unfold szS; omega) p1
  rw [ha.back, hu] at g3
  rw [hp.ok.back] at q3
  have hd : (putAll .new (A.map Piece.op)).delta = s.delta := units_inj g1 q1 g2 q2 (g3.trans q3.symm)
  constructor
  · rw [List.map_append, putAll_app, put_fill B _ hb, hd, p2]
  · have := opsum_ps hok
    have tB : ∀ B : List Int, tsum (B.map (Piece.ret [])) = 0 := fun B => by induction B with
      | nil => rfl
      | cons n B ih => simp only [tsum, List.map_cons, List.sum_cons, tsize] at ih ⊢; omega
    rw [tsum_app, tA, tB, List.length_append] at this
    omega
theorem op_count {p : Piece} (h : pOk p) : 0 ≤ p.op.count ∧ p.op.count ≤ 1099511627776 := by
  cases p with
  | ins a t n => simp [Piece.op]
  | emb a t v => simp [Piece.op]
  | ret a n => have := ret_ok.1 h; simp only [Piece.op]; omega
  | del n => have := del_ok.1 h; simp only [Piece.op]; omega
theorem tsum_trim (l : List Piece) : tsum (trimmed l) ≤ tsum l := by
  unfold trimmed
  split
  · rcases snoc_cases l with rfl | ⟨m, q, rfl⟩
    · simp
    · rw [List.dropLast_concat, tsum_app]; omega
  · exact Nat.le_refl _
theorem tsum_del (l : List Piece) (g : Int) : tsum (deletedL l g) = tsum l := by
  unfold deletedL
  split
  · rfl
  · rw [tsum_app]; simp [tsum, tsize]
end Ve
