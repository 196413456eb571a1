/- Plain laws of the builder: its invariants. -/
import Derived.Test.YtmdakddgeagnmaaDoorB5
set_option linter.all false
namespace Ve
open Go

def tsize : Piece → Nat
  | .ins _ t _ => t.size
  | _ => 0
def tsum (l : List Piece) : Nat := (l.map tsize).sum
def rsum (l : List Piece) : Int := (l.map Piece.r).sum
theorem tsum_app (l m : List Piece) : tsum (l ++ m) = tsum l + tsum m := by simp [tsum]
theorem rsum_app (l m : List Piece) : rsum (l ++ m) = rsum l + rsum m := by simp [rsum]
theorem joinedL_snoc (m : List Piece) (q p : Piece) : joinedL (m ++ [q]) p = match joinTo q p with | some r => m ++ [r] | none => m ++ [q, p] := by
  unfold joinedL
  simp only [List.getLast?_append, List.getLast?_singleton, Option.some_or]
  split
  · rename_i r h
    simp [h, List.set_append]
  · rename_i h
    simp [h]
theorem snoc_cases (l : List Piece) : l = [] ∨ ∃ m q, l = m ++ [q] := by
  rcases List.eq_nil_or_concat l with h | ⟨m, q, h⟩
  · exact .inl h
  · exact .inr ⟨m, q, by simpa using h⟩
theorem joinTo_facts {q p r : Piece} (h : joinTo q p = some r) : tsize r = tsize q + tsize p ∧ r.r = q.r + p.r ∧ r.len = q.len + p.len ∧ r.good := by
  cases q <;> cases p <;> simp [joinTo] at h
  all_goals
    obtain ⟨_, rfl⟩ := h
    simp [tsize, Piece.r, Piece.len, Piece.good, ByteArray.size_append]
theorem joinedL_tsum (l : List Piece) (p : Piece) : tsum (joinedL l p) = tsum l + tsize p := by
  rcases snoc_cases l with rfl | ⟨m, q, rfl⟩
  · simp [joinedL, tsum]
  · rw [joinedL_snoc]
    cases h : joinTo q p with
    | none => simp [tsum]; omega
    | some r => have := joinTo_facts h; simp [tsum]; omega
theorem joinedL_rsum (l : List Piece) (p : Piece) : rsum (joinedL l p) = rsum l + p.r := by
  rcases snoc_cases l with rfl | ⟨m, q, rfl⟩
  · simp [joinedL, rsum]
  · rw [joinedL_snoc]
    cases h : joinTo q p with
    | none => simp [rsum]; omega
    | some r => have := joinTo_facts h; simp [rsum]; omega
theorem joinedL_len (l : List Piece) (p : Piece) : (joinedL l p).length ≤ l.length + 1 := by
  rcases snoc_cases l with rfl | ⟨m, q, rfl⟩
  · simp [joinedL]
  · rw [joinedL_snoc]
    cases h : joinTo q p <;> simp
theorem joinedL_mem {l : List Piece} {p x : Piece} (h : x ∈ joinedL l p) : x ∈ l ∨ x = p ∨ ∃ q ∈ l, joinTo q p = some x := by
  rcases snoc_cases l with rfl | ⟨m, q, rfl⟩
  · simp [joinedL] at h; exact .inr (.inl h)
  · rw [joinedL_snoc] at h
    cases hj : joinTo q p with
    | none =>
      rw [hj] at h
      simp at h
      rcases h with h | h | h
      · exact .inl (by simp [h])
      · exact .inl (by simp [h])
      · exact .inr (.inl h)
    | some r =>
      rw [hj] at h
      simp at h
      rcases h with h | h
      · exact .inl (by simp [h])
      · exact .inr (.inr ⟨q, by simp, by rw [hj, h]⟩)
theorem r_nn {p : Piece} (h : 0 ≤ p.len) : 0 ≤ p.r := by cases p <;> simp_all [Piece.len, Piece.r]
theorem rsum_mem {l : List Piece} (h : ∀ p ∈ l, 0 ≤ p.len) {q : Piece} (hq : q ∈ l) : q.r ≤ rsum l := by
  induction l with
  | nil => cases hq
  | cons p l ih =>
    have hnn : 0 ≤ rsum l := by
      clear ih hq
      induction l with
      | nil => simp [rsum]
      | cons a l ih =>
        have h1 := ih fun x hx => h x (by simp at hx ⊢; rcases hx with hx | hx <;> simp [hx])
        have h2 := r_nn (h a (by simp))
        simp [rsum] at h1 ⊢; omega
    have hp := r_nn (h p (by simp))
    rcases List.mem_cons.1 hq with rfl | hq
    · simp [rsum] at hnn ⊢; omega
    · have := ih (fun x hx => h x (by simp [hx])) hq
      simp [rsum] at this ⊢; omega
theorem tsum_mem {l : List Piece} {q : Piece} (hq : q ∈ l) : tsize q ≤ tsum l := by
  induction l with
  | nil => cases hq
  | cons p l ih =>
    rcases List.mem_cons.1 hq with rfl | hq
    · simp [tsum]
    · have := ih hq; simp [tsum] at this ⊢; omega
/-- What holds of a builder at all times: T bounds its texts, N the operations. -/
structure Bld.Inv (s : Bld) (T N : Nat) : Prop where
  b0 : 0 ≤ s.base
  b1 : s.base ≤ 1099511627776
  r0 : 0 ≤ s.result
  r1 : s.result ≤ 1099511627776
  g0 : 0 ≤ s.gone
  g1 : s.gone ≤ s.base
  ts : tsum s.pieces ≤ T
  len : s.pieces.length ≤ 2 * N
  rs : rsum s.pieces ≤ s.result
  nn : ∀ p ∈ s.pieces, 0 ≤ p.len
  good : ∀ p ∈ s.pieces, p.good
theorem Bld.Inv.new : Bld.new.Inv 0 0 := ⟨by decide, by decide, by decide, by decide, by decide, by decide, by decide, by decide, by decide, by simp [Bld.new], by simp [Bld.new]⟩
theorem good_of {o : Op} (h : checkOp o = 0) : (toPiece o).good := by
  unfold toPiece
  split
  · trivial
  · split
    · rename_i k1 k2
      show kindOk o.val = true
      unfold checkOp refuse at h
      simp only [k2] at h
      split at h
      · cases h
      · simp at h
        by_cases hk : kindOk o.val = true
        · exact hk
        · exfalso
          have : checkPlain o.val = 5 := by simp [checkPlain, hk]
          simp [this] at h
          by_cases c1 : o.count = 0
          · rw [if_pos c1] at h
            by_cases c2 : o.text = es ∨ 64 < o.text.size
            · rw [if_pos c2] at h; cases h
            · rw [if_neg c2] at h
              by_cases c3 : brk o.text = o.text.size
              · rw [if_pos c3] at h; cases h
              · rw [if_neg c3] at h; cases h
          · rw [if_neg c1] at h; cases h
    · split <;> trivial
theorem Bld.Inv.joinOk {s : Bld} {T N : Nat} (h : s.Inv T N) {p : Piece} (hf : s.fits p = true) (hp : 0 ≤ p.len) (ht : T + tsize p ≤ 1099511627776) : JoinOk s.pieces p := by
  intro q r hq hr
  have hm : q ∈ s.pieces := List.mem_of_getLast? hq
  have h1 := rsum_mem h.nn hm
  have h2 := tsum_mem hm
  have h3 := h.ts
  have h4 := h.rs
  have h5 := h.nn q hm
  simp [Bld.fits] at hf
  cases q <;> cases p <;> simp [joinTo] at hr
  all_goals
    obtain ⟨_, rfl⟩ := hr
    simp [Piece.sizeOk, szS, tsize, Piece.r, Piece.b, Piece.len, ByteArray.size_append] at *
    omega
theorem tsize_of {o : Op} : tsize (toPiece o) ≤ o.text.size := by
  unfold toPiece
  split
  · simp [tsize]
  · split
    · simp [tsize]
    · split <;> simp [tsize]
theorem Bld.Inv.mono {s : Bld} {T N T' N' : Nat} (h : s.Inv T N) (hT : T ≤ T') (hN : N ≤ N') : s.Inv T' N' :=
  { h with ts := Nat.le_trans h.ts hT, len := Nat.le_trans h.len (by omega) }
theorem Bld.Inv.put {s : Bld} {T N : Nat} (h : s.Inv T N) {p : Piece} (hf : s.fits p = true) (hp : 0 ≤ p.len) (hg : p.good) : (s.put p).Inv (T + tsize p) (N + 1) := by
  obtain ⟨b0, b1, r0, r1, g0, g1, ts, len, rs, nn, good⟩ := h
  simp [Bld.fits] at hf
  have hr := r_nn hp
  have mem : ∀ l : List Piece, (∀ x ∈ l, 0 ≤ x.len ∧ x.good) → ∀ x ∈ joinedL l p, 0 ≤ x.len ∧ x.good := by
    intro l hl x hx
    rcases joinedL_mem hx with hx | rfl | ⟨q, hq, hj⟩
    · exact hl x hx
    · exact ⟨hp, hg⟩
    · have := joinTo_facts hj
      exact ⟨by have := (hl q hq).1; omega, this.2.2.2⟩
  have both : ∀ x ∈ s.pieces, 0 ≤ x.len ∧ x.good := fun x hx => ⟨nn x hx, good x hx⟩
  cases p with
  | del n =>
    simp [Piece.b, Piece.r, Piece.len] at *
    exact ⟨by simp [Bld.put]; omega, by simp [Bld.put]; omega, r0, r1, by simp [Bld.put]; omega, by simp [Bld.put]; omega, by simp [Bld.put, tsize]; omega, by simp [Bld.put]; omega, rs, nn, good⟩
  | ret a n =>
    have hd : ∀ x ∈ deletedL s.pieces s.gone, 0 ≤ x.len ∧ x.good := by
      unfold deletedL
      split
      · exact both
      · intro x hx
        simp at hx
        rcases hx with hx | rfl
        · exact both x hx
        · exact ⟨g0, trivial⟩
    have hdt : tsum (deletedL s.pieces s.gone) = tsum s.pieces := by unfold deletedL; split <;> simp [tsum, tsize]
    have hdr : rsum (deletedL s.pieces s.gone) = rsum s.pieces := by unfold deletedL; split <;> simp [rsum, Piece.r]
    have hdl : (deletedL s.pieces s.gone).length ≤ s.pieces.length + 1 := by unfold deletedL; split <;> simp
    have e1 := joinedL_tsum (deletedL s.pieces s.gone) (.ret a n)
    have e2 := joinedL_rsum (deletedL s.pieces s.gone) (.ret a n)
    have e3 := joinedL_len (deletedL s.pieces s.gone) (.ret a n)
    have e4 := mem _ hd
    simp [Piece.b, Piece.r, Piece.len] at hf hp hr e2
    refine ⟨?_, ?_, ?_, ?_, by simp [Bld.put], ?_, ?_, ?_, ?_, fun x hx => (e4 x hx).1, fun x hx => (e4 x hx).2⟩
    all_goals simp only [Bld.put]
    all_goals omega
  | ins a t n =>
    have e1 := joinedL_tsum s.pieces (.ins a t n)
    have e2 := joinedL_rsum s.pieces (.ins a t n)
    have e3 := joinedL_len s.pieces (.ins a t n)
    have e4 := mem _ both
    simp [Piece.b, Piece.r, Piece.len] at hf hp hr e2
    refine ⟨?_, ?_, ?_, ?_, g0, ?_, ?_, ?_, ?_, fun x hx => (e4 x hx).1, fun x hx => (e4 x hx).2⟩
    all_goals simp only [Bld.put, Piece.b, Piece.r]
    all_goals omega
  | emb a t x =>
    have e1 := joinedL_tsum s.pieces (.emb a t x)
    have e2 := joinedL_rsum s.pieces (.emb a t x)
    have e3 := joinedL_len s.pieces (.emb a t x)
    have e4 := mem _ both
    simp [Piece.b, Piece.r, Piece.len] at hf hp hr e2
    refine ⟨?_, ?_, ?_, ?_, g0, ?_, ?_, ?_, ?_, fun x hx => (e4 x hx).1, fun x hx => (e4 x hx).2⟩
    all_goals simp only [Bld.put, Piece.b, Piece.r]
    all_goals omega

def opsum (l : List Op) : Nat := (l.map fun o => o.text.size).sum
theorem push_ok {s : Bld} {o : Op} (h : (s.push o).2 = 0) : checkOp o = 0 ∧ s.fits (toPiece o) = true ∧ (s.push o).1 = s.put (toPiece o) := by
  unfold Bld.push at h ⊢
  by_cases h0 : checkOp o = 0
  · cases hf : s.fits (toPiece o) with
    | true => simp [h0, hf]
    | false => simp [h0, hf] at h
  · simp [h0] at h
theorem Bld.Inv.push {s : Bld} {T N : Nat} (h : s.Inv T N) {o : Op} (ho : (s.push o).2 = 0) (ht : szS o.text) : (s.push o).1.Inv (T + o.text.size) (N + 1) := by
  obtain ⟨h1, h2, h3⟩ := push_ok ho
  rw [h3]
  exact (h.put h2 (len_ok h1 ht).1 (good_of h1)).mono (by have := tsize_of (o := o); omega) (Nat.le_refl _)
theorem opsum_take {l : List Op} {k : Nat} {o : Op} (h : l[k]? = some o) : opsum (l.take (k + 1)) = opsum (l.take k) + o.text.size := by
  obtain ⟨hl, rfl⟩ := List.getElem?_eq_some_iff.1 h
  rw [List.take_succ_eq_append_getElem hl]; unfold opsum; rw [List.map_append, List.sum_append]; simp only [List.map_cons, List.map_nil, List.sum_cons, List.sum_nil, Nat.add_zero]
theorem opsum_take_le (l : List Op) (k : Nat) : opsum (l.take k) ≤ opsum l := by
  have : opsum l = opsum (l.take k) + opsum (l.drop k) := by
    unfold opsum
    rw [← List.sum_append, ← List.map_append, List.take_append_drop]
  omega
theorem pushFrom_ok {s : Bld} {i : Nat} {o : Op} {r : List Op} (h : (s.push o).2 = 0) : pushFrom s i (o :: r) = pushFrom (s.push o).1 (i + 1) r := by simp [pushFrom, h]
theorem pushFrom_bad {s : Bld} {i : Nat} {o : Op} {r : List Op} (h : (s.push o).2 ≠ 0) : pushFrom s i (o :: r) = (s, i, (s.push o).2) := by simp [pushFrom, h]
end Ve
