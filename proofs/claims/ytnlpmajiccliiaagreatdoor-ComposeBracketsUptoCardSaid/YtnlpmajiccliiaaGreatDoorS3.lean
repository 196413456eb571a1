/- Plain laws of the builder: its invariants. -/
import Derived.Test.YtnlpmajiccliiaaGreatDoorB6
import Derived.Test.YtnlpmajiccliiaaGreatDoorR7
set_option linter.all false
namespace Ve
open Go

def tsize : Piece → Nat
  | .ins _ t _ => t.size
  | _ => 0
def tsum (l : List Piece) : Nat := (l.map tsize).sum
def rsum (l : List Piece) : Int := (l.map Piece.r).sum
theorem tsum_app (l m : List Piece) : tsum (l ++ m) = tsum l + tsum m := by simp [tsum]
theorem rsum_app (l m : List Piece) : rsum (l ++ m) = rsum l + rsum m := by simp [rsum]
theorem joinedL_snoc (m : List Piece) (q p : Piece) : joinedL (m ++ [q]) p = match joinTo q p with | some r => m ++ [r] | none => m ++ [q, p] := by
  unfold joinedL
  simp only [List.getLast?_append, List.getLast?_singleton, Option.some_or]
  split
  · rename_i r h
    simp [h, List.set_append]
  · rename_i h
    simp [h]
theorem snoc_cases (l : List Piece) : l = [] ∨ ∃ m q, l = m ++ [q] := by
  rcases List.eq_nil_or_concat l with h | ⟨m, q, h⟩
  · exact .inl h
  · exact .inr ⟨m, q, by simpa using h⟩
theorem joinTo_facts {q p r : Piece} (h : joinTo q p = some r) : tsize r = tsize q + tsize p ∧ r.r = q.r + p.r ∧ r.len = q.len + p.len ∧ r.good := by
  cases q <;> cases p <;> simp [joinTo] at h
  all_goals
    obtain ⟨_, rfl⟩ := h
    simp [tsize, Piece.r, Piece.len, Piece.good, ByteArray.size_append]
theorem joinedL_tsum (l : List Piece) (p : Piece) : tsum (joinedL l p) = tsum l + tsize p := by
  rcases snoc_cases l with rfl | ⟨m, q, rfl⟩
  · simp [joinedL, tsum]
  · rw [joinedL_snoc]
    cases h : joinTo q p with
    | none => simp [tsum]; omega
    | some r => have := joinTo_facts h; simp [tsum]; omega
theorem joinedL_rsum (l : List Piece) (p : Piece) : rsum (joinedL l p) = rsum l + p.r := by
  rcases snoc_cases l with rfl | ⟨m, q, rfl⟩
  · simp [joinedL, rsum]
  · rw [joinedL_snoc]
    cases h : joinTo q p with
    | none => simp [rsum]; omega
    | some r => have := joinTo_facts h; simp [rsum]; omega
theorem joinedL_len (l : List Piece) (p : Piece) : (joinedL l p).length ≤ l.length + 1 := by
  rcases snoc_cases l with rfl | ⟨m, q, rfl⟩
  · simp [joinedL]
  · rw [joinedL_snoc]
    cases h : joinTo q p <;> simp
theorem joinedL_mem {l : List Piece} {p x : Piece} (h : x ∈ joinedL l p) : x ∈ l ∨ x = p ∨ ∃ q ∈ l, joinTo q p = some x := by
  rcases snoc_cases l with rfl | ⟨m, q, rfl⟩
  · simp [joinedL] at h; exact .inr (.inl h)
  · rw [joinedL_snoc] at h
    cases hj : joinTo q p with
    | none =>
      rw [hj] at h
      simp at h
      rcases h with h | h | h
      · exact .inl (by simp [h])
      · exact .inl (by simp [h])
      · exact .inr (.inl h)
    | some r =>
      rw [hj] at h
      simp at h
      rcases h with h | h
      · exact .inl (by simp [h])
      · exact .inr (.inr ⟨q, by simp, by rw [hj, h]⟩)
theorem r_nn {p : Piece} (h : 0 ≤ p.len) : 0 ≤ p.r := by cases p <;> simp_all [Piece.len, Piece.r]
theorem rsum_mem {l : List Piece} (h : ∀ p ∈ l, 0 ≤ p.len) {q : Piece} (hq : q ∈ l) : q.r ≤ rsum l := by
  induction l with
  | nil => cases hq
  | cons p l ih =>
    have hnn : 0 ≤ rsum l := by
      clear ih hq
      induction l with
      | nil => simp [rsum]
      | cons a l ih =>
        have h1 := ih fun x hx => h x (by simp at hx ⊢; rcases hx with hx | hx <;> simp [hx])
        have h2 := r_nn (h a (by simp))
        simp [rsum] at h1 ⊢; omega
    have hp := r_nn (h p (by simp))
    rcases List.mem_cons.1 hq with rfl | hq
    · simp [rsum] at hnn ⊢; omega
    · have := ih (fun x hx => h x (by simp [hx])) hq
      simp [rsum] at this ⊢; omega
theorem tsum_mem {l : List Piece} {q : Piece} (hq : q ∈ l) : tsize q ≤ tsum l := by
  induction l with
  | nil => cases hq
  | cons p l ih =>
    rcases List.mem_cons.1 hq with rfl | hq
    · simp [tsum]
    · have := ih hq; simp [tsum] at this ⊢; omega
/-- What holds of a builder at all times: T bounds its texts, N the operations. -/
structure Bld.Inv (s : Bld) (T N : Nat) : Prop where
  b0 : 0 ≤ s.base
  b1 : s.base ≤ 1099511627776
  r0 : 0 ≤ s.result
  r1 : s.result ≤ 1099511627776
  g0 : 0 ≤ s.gone
  g1 : s.gone ≤ s.base
  ts : tsum s.pieces ≤ T
  len : s.pieces.length ≤ 2 * N
  rs : rsum s.pieces ≤ s.result
  nn : ∀ p ∈ s.pieces, 0 ≤ p.len
  good : ∀ p ∈ s.pieces, p.good
theorem Bld.Inv.new : Bld.new.Inv 0 0 := ⟨by decide, by decide, by decide, by decide, by decide, by decide, by decide, by decide, by decide, by simp [Bld.new], by simp [Bld.new]⟩
theorem good_of {o : Op} (h : checkOp o = 0) : (toPiece o).good := by
  unfold toPiece
  split
  · trivial
  · split
    · rename_i k1 k2
      show kindOk o.val = true
      unfold checkOp refuse at h
      simp only [k2] at h
      split at h
      · cases h
      · simp at h
        by_cases hk : kindOk o.val = true
        · exact hk
        · exfalso
          have : checkPlain o.val = 5 := by simp [checkPlain, hk]
          simp [this] at h
          by_cases c1 : o.count = 0
          · rw [if_pos c1] at h
            by_cases c2 : o.text = es ∨ 64 < o.text.size
            · rw [if_pos c2] at h; cases h
            · rw [if_neg c2] at h
              by_cases c3 : brk o.text = o.text.size
              · rw [if_pos c3] at h; cases h
              · rw [if_neg c3] at h; cases h
          · rw [if_neg c1] at h; cases h
    · split <;> trivial
theorem Bld.Inv.joinOk {s : Bld} {T N : Nat} (h : s.Inv T N) {p : Piece} (hf : s.fits p = true) (hp : 0 ≤ p.len) (ht : T + tsize p ≤ 1099511627776) : JoinOk s.pieces p := by
  intro q r hq hr
  have hm : q ∈ s.pieces := List.mem_of_getLast? hq
  have h1 := rsum_mem h.nn hm
  have h2 := tsum_mem hm
  have h3 := h.ts
  have h4 := h.rs
  have h5 := h.nn q hm
  simp [Bld.fits] at hf
  cases q <;> cases p <;> simp [joinTo] at hr
  all_goals
    obtain ⟨_, rfl⟩ := hr
    simp [Piece.sizeOk, szS, tsize, Piece.r, Piece.b, Piece.len, ByteArray.size_append] at *
    omega
theorem tsize_of {o : Op} : tsize (toPiece o) ≤ o.text.size := by
  unfold toPiece
  split
  · simp [tsize]
  · split
    · simp [tsize]
    · split <;> simp [tsize]
theorem Bld.Inv.mono {s : Bld} {T N T' N' : Nat} (h : s.Inv T N) (hT : T ≤ T') (hN : N ≤ N') : s.Inv T' N' :=
  { h with ts := Nat.le_trans h.ts hT, len := Nat.le_trans h.len (by omega) }
theorem Bld.Inv.put {s : Bld} {T N : Nat} (h : s.Inv T N) {p : Piece} (hf : s.fits p = true) (hp : 0 ≤ p.len) (hg : p.good) : (s.put p).Inv (T + tsize p) (N + 1) := by
  obtain ⟨b0, b1, r0, r1, g0, g1, ts, len, rs, nn, good⟩ := h
  simp [Bld.fits] at hf
  have hr := r_nn hp
  have mem : ∀ l : List Piece, (∀ x ∈ l, 0 ≤ x.len ∧ x.good) → ∀ x ∈ joinedL l p, 0 ≤ x.len ∧ x.good := by
    intro l hl x hx
    rcases joinedL_mem hx with hx | rfl | ⟨q, hq, hj⟩
    · exact hl x hx
    · exact ⟨hp, hg⟩
    · have := joinTo_facts hj
      exact ⟨by have := (hl q hq).1; omega, this.2.2.2⟩
  have both : ∀ x ∈ s.pieces, 0 ≤ x.len ∧ x.good := fun x hx => ⟨nn x hx, good x hx⟩
  cases p with
  | del n =>
    simp [Piece.b, Piece.r, Piece.len] at *
    exact ⟨by simp [Bld.put]; omega, by simp [Bld.put]; omega, r0, r1, by simp [Bld.put]; omega, by simp [Bld.put]; omega, by simp [Bld.put, tsize]; omega, by simp [Bld.put]; omega, rs, nn, good⟩
  | ret a n =>
    have hd : ∀ x ∈ deletedL s.pieces s.gone, 0 ≤ x.len ∧ x.good := by
      unfold deletedL
      split
      · exact both
      · intro x hx
        simp at hx
        rcases hx with hx | rfl
        · exact both x hx
        · exact ⟨g0, trivial⟩
    have hdt : tsum (deletedL s.pieces s.gone) = tsum s.pieces := by unfold deletedL; split <;> simp [tsum, tsize]
    have hdr : rsum (deletedL s.pieces s.gone) = rsum s.pieces := by unfold deletedL; split <;> simp [rsum, Piece.r]
    have hdl : (deletedL s.pieces s.gone).length ≤ s.pieces.length + 1 := by unfold deletedL; split <;> simp
    have e1 := joinedL_tsum (deletedL s.pieces s.gone) (.ret a n)
    have e2 := joinedL_rsum (deletedL s.pieces s.gone) (.ret a n)
    have e3 := joinedL_len (deletedL s.pieces s.gone) (.ret a n)
    have e4 := mem _ hd
    simp [Piece.b, Piece.r, Piece.len] at hf hp hr e2
    refine ⟨?_, ?_, ?_, ?_, by simp [Bld.put], ?_, ?_, ?_, ?_, fun x hx => (e4 x hx).1, fun x hx => (e4 x hx).2⟩
    all_goals simp only [Bld.put]
    all_goals omega
  | ins a t n =>
    have e1 := joinedL_tsum s.pieces (.ins a t n)
    have e2 := joinedL_rsum s.pieces (.ins a t n)
    have e3 := joinedL_len s.pieces (.ins a t n)
    have e4 := mem _ both
    simp [Piece.b, Piece.r, Piece.len] at hf hp hr e2
    refine ⟨?_, ?_, ?_, ?_, g0, ?_, ?_, ?_, ?_, fun x hx => (e4 x hx).1, fun x hx => (e4 x hx).2⟩
    all_goals simp only [Bld.put, Piece.b, Piece.r]
    all_goals omega
  | emb a t x =>
    have e1 := joinedL_tsum s.pieces (.emb a t x)
    have e2 := joinedL_rsum s.pieces (.emb a t x)
    have e3 := joinedL_len s.pieces (.emb a t x)
    have e4 := mem _ both
    simp [Piece.b, Piece.r, Piece.len] at hf hp hr e2
    refine ⟨?_, ?_, ?_, ?_, g0, ?_, ?_, ?_, ?_, fun x hx => (e4 x hx).1, fun x hx => (e4 x hx).2⟩
    all_goals simp only [Bld.put, Piece.b, Piece.r]
    all_goals omega

def opsum (l : List Op) : Nat := (l.map fun o => o.text.size).sum
/-- The numbers of attributes. -/
def atsum (l : List Op) : Nat := (l.map fun o => o.attrs.length).sum
theorem wsum_split (l : List Op) : (l.map fun o : Op => o.text.size + o.attrs.length).sum = opsum l + atsum l := by
  induction l with
  | nil => rfl
  | cons o l ih => simp only [opsum, atsum, List.map_cons, List.sum_cons] at ih ⊢; omega
theorem push_ok {s : Bld} {o : Op} (h : (s.push o).2 = 0) : checkOp o = 0 ∧ s.fits (toPiece o) = true ∧ (s.push o).1 = s.put (toPiece o) := by
  unfold Bld.push at h ⊢
  by_cases h0 : checkOp o = 0
  · cases hf : s.fits (toPiece o) with
    | true => simp [h0, hf]
    | false => simp [h0, hf] at h
  · simp [h0] at h
theorem Bld.Inv.push {s : Bld} {T N : Nat} (h : s.Inv T N) {o : Op} (ho : (s.push o).2 = 0) (ht : szS o.text) : (s.push o).1.Inv (T + o.text.size) (N + 1) := by
  obtain ⟨h1, h2, h3⟩ := push_ok ho
  rw [h3]
  exact (h.put h2 (len_ok h1 ht).1 (good_of h1)).mono (by have := tsize_of (o := o); omega) (Nat.le_refl _)
theorem opsum_take {l : List Op} {k : Nat} {o : Op} (h : l[k]? = some o) : opsum (l.take (k + 1)) = opsum (l.take k) + o.text.size := by
  obtain ⟨hl, rfl⟩ := List.getElem?_eq_some_iff.1 h
  rw [List.take_succ_eq_append_getElem hl]; unfold opsum; rw [List.map_append, List.sum_append]; simp only [List.map_cons, List.map_nil, List.sum_cons, List.sum_nil, Nat.add_zero]
theorem opsum_take_le (l : List Op) (k : Nat) : opsum (l.take k) ≤ opsum l := by
  have : opsum l = opsum (l.take k) + opsum (l.drop k) := by
    unfold opsum
    rw [← List.sum_append, ← List.map_append, List.take_append_drop]
  omega
theorem pushFrom_ok {s : Bld} {i : Nat} {o : Op} {r : List Op} (h : (s.push o).2 = 0) : pushFrom s i (o :: r) = pushFrom (s.push o).1 (i + 1) r := by simp [pushFrom, h]
theorem pushFrom_bad {s : Bld} {i : Nat} {o : Op} {r : List Op} (h : (s.push o).2 ≠ 0) : pushFrom s i (o :: r) = (s, i, (s.push o).2) := by simp [pushFrom, h]
end Ve
/- Plain laws: a canonical list given to the builder is the delta's own list. -/
namespace Ve
open Go

def sumB : List Op → Int
  | [] => 0
  | o :: l => baseO o + sumB l
def sumR : List Op → Int
  | [] => 0
  | o :: l => resO o + sumR l
theorem sumB_app (l m : List Op) : sumB (l ++ m) = sumB l + sumB m := by
  induction l with
  | nil => simp [sumB]
  | cons o l ih => simp only [List.cons_append, sumB, ih]; omega
theorem sumR_app (l m : List Op) : sumR (l ++ m) = sumR l + sumR m := by
  induction l with
  | nil => simp [sumR]
  | cons o l ih => simp only [List.cons_append, sumR, ih]; omega
theorem ok_kind {o : Op} (h : checkOp o = 0) : o.kind = 1 ∨ o.kind = 2 ∨ o.kind = 3 ∨ o.kind = 4 := by
  refine hasOnly_kind ?_
  cases hh : hasOnly o with
  | true => rfl
  | false => simp [checkOp, hh] at h
theorem ok_only {o : Op} (h : checkOp o = 0) : hasOnly o = true := by
  cases hh : hasOnly o with
  | true => rfl
  | false => simp [checkOp, hh] at h
/-- A well formed operation is told by its piece. -/
theorem op_toPiece {o : Op} (h : checkOp o = 0) : (toPiece o).op = o := by
  have h1 := ok_only h
  obtain ⟨k, t, v, c, l⟩ := o
  have hk := ok_kind h
  simp only at hk
  unfold hasOnly at h1
  rcases hk with rfl | rfl | rfl | rfl
  · simp at h1
    obtain ⟨h1, h2⟩ := h1
    subst h1; subst h2; rfl
  · simp at h1
    subst h1; rfl
  · simp at h1
    obtain ⟨h1, h2⟩ := h1
    subst h1; subst h2; rfl
  · simp at h1
    obtain ⟨⟨h1, h2⟩, h3⟩ := h1
    subst h1; subst h2; subst h3; rfl
theorem piece_b {o : Op} (h : checkOp o = 0) : (toPiece o).b = baseO o := by
  have hl := rlen_ok h
  have hk := ok_kind h
  unfold baseO
  unfold toPiece at hl ⊢
  rcases hk with k | k | k | k <;> simp [k] at hl ⊢ <;> simp [Piece.b, Piece.len] at hl ⊢
  · exact hl.symm
  · exact hl.symm
theorem piece_r {o : Op} (h : checkOp o = 0) : (toPiece o).r = resO o := by
  have hl := rlen_ok h
  have hk := ok_kind h
  unfold resO
  unfold toPiece at hl ⊢
  rcases hk with k | k | k | k <;> simp [k] at hl ⊢ <;> simp [Piece.r, Piece.len] at hl ⊢
  · exact hl.symm
  · exact hl.symm
  · exact hl.symm
theorem joinTo_apart {a o : Op} (ha : checkOp a = 0) (ho : checkOp o = 0) (h : apartO a o = true) : joinTo (toPiece a) (toPiece o) = none := by
  have ka := ok_kind ha
  have ko := ok_kind ho
  obtain ⟨k, t, v, c, l⟩ := a
  obtain ⟨k', t', v', c', l'⟩ := o
  simp only at ka ko
  rcases ka with rfl | rfl | rfl | rfl <;> rcases ko with rfl | rfl | rfl | rfl <;> simp [apartO] at h <;> simp [toPiece, joinTo, h]
theorem joinedL_miss' {l : List Piece} {q p : Piece} (h : joinTo q p = none) : joinedL (l ++ [q]) p = l ++ [q, p] := by
  rw [joinedL_snoc, h]
/-- The builder's state behind a canonical list. -/
def St (s : Bld) (p : List Op) : Prop :=
  s.base = sumB p ∧ s.result = sumR p ∧ (∀ o ∈ p, checkOp o = 0) ∧
  ((s.pieces = p.map toPiece ∧ s.gone = 0 ∧ ∀ o, p.getLast? = some o → o.kind ≠ 4) ∨
   ∃ q d, p = q ++ [d] ∧ d.kind = 4 ∧ s.pieces = q.map toPiece ∧ s.gone = d.count ∧ ∀ o, q.getLast? = some o → o.kind ≠ 4)
theorem St.new : St .new [] := ⟨rfl, rfl, by simp, .inl ⟨rfl, rfl, by simp⟩⟩
theorem snoc_ops (l : List Op) : l = [] ∨ ∃ m q, l = m ++ [q] := by
  rcases List.eq_nil_or_concat l with h | ⟨m, q, h⟩
  · exact .inl h
  · exact .inr ⟨m, q, by simpa using h⟩
theorem joined_apart {p : List Op} {o : Op} (hp : ∀ x ∈ p, checkOp x = 0) (ho : checkOp o = 0) (h : ∀ x, p.getLast? = some x → apartO x o = true) : joinedL (p.map toPiece) (toPiece o) = (p ++ [o]).map toPiece := by
  rcases snoc_ops p with rfl | ⟨m, q, rfl⟩
  · simp [joinedL]
  · have := joinTo_apart (hp q (by simp)) ho (h q (by simp))
    rw [List.map_append, List.map_cons, List.map_nil, joinedL_miss' this]
    simp
theorem count_pos {o : Op} (h : checkOp o = 0) (hk : o.kind = 4) : 1 ≤ o.count := by
  unfold checkOp at h
  rw [hk] at h
  split at h
  · omega
  · simp at h
    by_cases c : o.count < 1
    · rw [if_pos c] at h; omega
    · omega
theorem St.push {s : Bld} {p : List Op} {o : Op} (h : St s p) (ho : checkOp o = 0) (hb : sumB p + baseO o ≤ 1099511627776) (hr : sumR p + resO o ≤ 1099511627776) (ha : ∀ x, p.getLast? = some x → apartO x o = true) :
    (s.push o).2 = 0 ∧ St (s.push o).1 (p ++ [o]) := by
  obtain ⟨h1, h2, hok, h3⟩ := h
  have eb := piece_b ho
  have er := piece_r ho
  have hf : s.fits (toPiece o) = true := by
    unfold Bld.fits
    rw [eb, er, h1, h2]
    exact decide_eq_true ⟨hb, hr⟩
  have hpush : s.push o = (s.put (toPiece o), 0) := by simp [Bld.push, ho, hf]
  rw [hpush]
  refine ⟨rfl, ?_⟩
  have hok' : ∀ x ∈ p ++ [o], checkOp x = 0 := by
    intro x hx
    rcases List.mem_append.1 hx with hx | hx
    · exact hok x hx
    · rw [List.mem_singleton.1 hx]; exact ho
  have base : (s.put (toPiece o)).base = sumB (p ++ [o]) := by
    rw [sumB_app]
    simp only [sumB]
    rw [← eb, ← h1]
    unfold Bld.put
    cases toPiece o <;> simp [Piece.b]
  have result : (s.put (toPiece o)).result = sumR (p ++ [o]) := by
    rw [sumR_app]
    simp only [sumR]
    rw [← er, ← h2]
    unfold Bld.put
    cases toPiece o <;> simp [Piece.r]
  refine ⟨base, result, hok', ?_⟩
  have hk := ok_kind ho
  rcases h3 with ⟨g1, g2, g3⟩ | ⟨q, d, rfl, hd, g1, g2, g3⟩
  · by_cases h4 : o.kind = 4
    · right
      refine ⟨p, o, rfl, h4, ?_, ?_, g3⟩
      · have : toPiece o = .del o.count := by simp [toPiece, h4]
        rw [this]; exact g1
      · have : toPiece o = .del o.count := by simp [toPiece, h4]
        rw [this]; show s.gone + o.count = o.count; rw [g2]; omega
    · left
      refine ⟨?_, ?_, by simp; exact h4⟩
      · rw [← joined_apart hok ho ha, ← g1]
        rcases hk with k | k | k | k
        · have : toPiece o = .ins o.attrs o.text (Lib.runeCount o.text) := by simp [toPiece, k]
          rw [this]; rfl
        · have : toPiece o = .emb o.attrs o.text o.val := by simp [toPiece, k]
          rw [this]; rfl
        · have : toPiece o = .ret o.attrs o.count := by simp [toPiece, k]
          rw [this]
          simp [Bld.put, g2, deletedL]
        · exact absurd k h4
      · rcases hk with k | k | k | k
        · have : toPiece o = .ins o.attrs o.text (Lib.runeCount o.text) := by simp [toPiece, k]
          rw [this]; exact g2
        · have : toPiece o = .emb o.attrs o.text o.val := by simp [toPiece, k]
          rw [this]; exact g2
        · have : toPiece o = .ret o.attrs o.count := by simp [toPiece, k]
          rw [this]; rfl
        · exact absurd k h4
  · have hap := ha d (by simp)
    have h3 : o.kind = 3 := by simpa [apartO, hd] using hap
    have hdo : checkOp d = 0 := hok d (by simp)
    have hto : toPiece o = .ret o.attrs o.count := by simp [toPiece, h3]
    have htd : toPiece d = .del d.count := by simp [toPiece, hd]
    have hpos := count_pos hdo hd
    left
    refine ⟨?_, by rw [hto]; rfl, by simp; omega⟩
    rw [← joined_apart hok ho ha, hto]
    show joinedL (deletedL s.pieces s.gone) _ = _
    rw [g1, g2]
    unfold deletedL
    rw [if_neg (by omega), List.map_append, List.map_cons, List.map_nil, htd]
theorem lensFrom_zero {b r : Int} {o : Op} {l : List Op} (h : (lensFrom b r (o :: l)).2.2 = 0) : b + baseO o ≤ 1099511627776 ∧ r + resO o ≤ 1099511627776 ∧ lensFrom b r (o :: l) = lensFrom (b + baseO o) (r + resO o) l := by
  simp only [lensFrom] at h ⊢
  by_cases c : 1099511627776 < b + baseO o ∨ 1099511627776 < r + resO o
  · rw [if_pos c] at h; simp at h
  · rw [if_neg c]; exact ⟨by omega, by omega, rfl⟩
def lastApart (p : List Op) (l : List Op) : Prop := ∀ x, p.getLast? = some x → apartFrom x l = true
theorem St.all {s : Bld} {p l : List Op} (h : St s p) : ∀ i, (∀ o ∈ l, checkOp o = 0) → (lensFrom (sumB p) (sumR p) l).2.2 = 0 → (p = [] → apartAll l = true) → lastApart p l →
    ∃ s', pushFrom s i l = (s', 0, 0) ∧ St s' (p ++ l) := by
  induction l generalizing s p with
  | nil => intro i _ _ _ _; exact ⟨s, rfl, by simpa using h⟩
  | cons o l ih =>
    intro i hok hl h0 hap
    have ho := hok o (by simp)
    obtain ⟨l1, l2, l3⟩ := lensFrom_zero hl
    have hao : ∀ x, p.getLast? = some x → apartO x o = true := by
      intro x hx
      have := hap x hx
      simp [apartFrom] at this
      exact this.1
    have hfrom : apartFrom o l = true := by
      rcases snoc_ops p with rfl | ⟨m, q, rfl⟩
      · exact h0 rfl
      · have := hap q (by simp)
        simp [apartFrom] at this
        exact this.2
    obtain ⟨e, hs⟩ := h.push ho l1 l2 hao
    obtain ⟨s', e', hs'⟩ := ih hs (i + 1) (fun x hx => hok x (by simp [hx])) (by rw [sumB_app, sumR_app]; simp only [sumB, sumR, Int.add_zero]; rw [← l3]; exact hl) (by simp) (by
      intro x hx
      simp at hx
      subst hx
      exact hfrom)
    refine ⟨s', ?_, by simpa using hs'⟩
    simp only [pushFrom]
    rw [if_neg (by rw [e]; simp)]
    exact e'
theorem St.delta {s : Bld} {l : List Op} (h : St s l) (hl : lastOk l = true) : s.delta = l.map toPiece := by
  obtain ⟨-, -, hok, h3⟩ := h
  unfold Bld.delta
  rcases h3 with ⟨g1, g2, g3⟩ | ⟨q, d, rfl, hd, g1, g2, g3⟩
  · rw [g1, g2]
    unfold deletedL
    rw [if_pos rfl]
    rcases snoc_ops l with rfl | ⟨m, o, rfl⟩
    · rfl
    · unfold trimmed
      simp only [List.map_append, List.map_cons, List.map_nil, List.getLast?_append, List.getLast?_singleton, Option.some_or]
      have ho := hok o (by simp)
      have hk := ok_kind ho
      simp [lastOk] at hl
      rcases hk with k | k | k | k <;> simp [toPiece, k] at hl ⊢
      cases ha : o.attrs with
      | nil => exact absurd ha hl
      | cons a r => rfl
  · have hpos := count_pos (hok d (by simp)) hd
    have htd : toPiece d = .del d.count := by simp [toPiece, hd]
    rw [g1, g2]
    unfold deletedL
    rw [if_neg (by omega), List.map_append, List.map_cons, List.map_nil, htd]
    unfold trimmed
    simp
theorem canon_parts {l : List Op} (h : canonL l = true) : (∀ o ∈ l, checkOp o = 0) ∧ (lensFrom 0 0 l).2.2 = 0 ∧ apartAll l = true ∧ lastOk l = true := by
  unfold canonL at h
  simp only [Bool.and_eq_true, beq_iff_eq] at h
  obtain ⟨h1, h2, h3⟩ := h
  have hb : (bad l).2 = 0 := by
    unfold lensL at h1
    by_cases c : (bad l).2 = 0
    · exact c
    · rw [if_pos c] at h1; exact h1
  refine ⟨bad_zero hb, ?_, h2, h3⟩
  unfold lensL at h1
  rw [if_neg (by simp [hb])] at h1
  exact h1
/-- A canonical list is made to the delta of its own pieces. -/
theorem canon_push {l : List Op} (h : canonL l = true) : ∃ s, pushAll l = (s, 0, 0) ∧ s.delta = l.map toPiece := by
  obtain ⟨h1, h2, h3, h4⟩ := canon_parts h
  obtain ⟨s, e, hs⟩ := St.new.all (l := l) 0 h1 h2 (fun _ => h3) (by intro x hx; simp at hx)
  exact ⟨s, e, hs.delta h4⟩
theorem map_op {l : List Op} (h : ∀ o ∈ l, checkOp o = 0) : (l.map toPiece).map Piece.op = l := by
  rw [List.map_map]
  conv => rhs; rw [← List.map_id l]
  exact List.map_congr_left fun o ho => op_toPiece (h o ho)
theorem lensFrom_sum {l : List Op} : ∀ {b r : Int}, (lensFrom b r l).2.2 = 0 → b ≤ 1099511627776 → r ≤ 1099511627776 → lensFrom b r l = (b + sumB l, r + sumR l, 0) ∧ b + sumB l ≤ 1099511627776 ∧ r + sumR l ≤ 1099511627776 := by
  induction l with
  | nil => intro b r h hb hr; exact ⟨by simp [lensFrom, sumB, sumR], by simpa [sumB] using hb, by simpa [sumR] using hr⟩
  | cons o l ih =>
    intro b r h hb hr
    obtain ⟨l1, l2, l3⟩ := lensFrom_zero h
    rw [l3] at h ⊢
    obtain ⟨e1, e2, e3⟩ := ih h l1 l2
    simp only [sumB, sumR]
    rw [e1]
    refine ⟨?_, by omega, by omega⟩
    rw [Int.add_assoc, Int.add_assoc]
end Ve
/- Plain laws: what vellumref06.Canonical gathers is what the builder gathers. -/
namespace Ve
open Go

/-- What vellumref06.push answers. -/
def push06 (out : List Op) (o : Op) : List Op :=
  match out.getLast? with
  | none => out ++ [o]
  | some q => if q.kind ≠ o.kind ∨ o.kind = 2 ∨ q.attrs ≠ o.attrs then out ++ [o] else out.set (out.length - 1) { q with text := q.text ++ o.text, count := q.count + o.count }
def isIns (o : Op) : Bool := o.kind == 1 || o.kind == 2
def delO (n : Int) : Op := ⟨4, es, ep, n, []⟩
/-- The gap's inserts and deletes put behind. -/
def flush06 (out gap : List Op) (gone : Int) : List Op := if 0 < gone then push06 (gap.foldl push06 out) (delO gone) else gap.foldl push06 out
def canonFrom (out gap : List Op) (gone : Int) : List Op → List Op
  | [] => flush06 out gap gone
  | o :: l => if isIns o = true then canonFrom out (gap ++ [o]) gone l else if o.kind = 4 then canonFrom out gap (gone + o.count) l else canonFrom (push06 (flush06 out gap gone) o) [] 0 l
def plainO (o : Op) : Bool := o.kind == 3 && o.attrs.length == 0
def dropPlain (l : List Op) : List Op := match l.getLast? with
  | some o => if plainO o = true then l.dropLast else l
  | none => l
/-- What vellumref06.Canonical answers. -/
def canon06 (l : List Op) : List Op := dropPlain (canonFrom [] [] 0 l)
/-- All operations put, none refused. -/
def putAll (s : Bld) (l : List Op) : Bld := l.foldl (fun s o => s.put (toPiece o)) s
theorem es_app : es ++ es = es := rfl
theorem push06_nil (o : Op) : push06 [] o = [o] := rfl
theorem push06_snoc (m : List Op) (q o : Op) : push06 (m ++ [q]) o = if q.kind ≠ o.kind ∨ o.kind = 2 ∨ q.attrs ≠ o.attrs then m ++ [q, o] else m ++ [{ q with text := q.text ++ o.text, count := q.count + o.count }] := by
  unfold push06
  simp only [List.getLast?_append, List.getLast?_singleton, Option.some_or]
  split
  · simp
  · simp [List.set_append]
/-- One joined. -/
theorem joined_push06 (ps : List Piece) (p : Piece) (hp : ∀ n, p ≠ .del n) : (joinedL ps p).map Piece.op = push06 (ps.map Piece.op) p.op := by
  rcases snoc_cases ps with rfl | ⟨m, q, rfl⟩
  · rfl
  · rw [joinedL_snoc, List.map_append, List.map_cons, List.map_nil, push06_snoc]
    cases q <;> cases p <;> simp only [joinTo, Piece.op]
    any_goals (first | exact absurd rfl (hp _) | (simp [Piece.op]; done))
    · rename_i a t n a' t' n'
      by_cases c : a = a'
      · simp [c, Piece.op]
      · simp [c, Piece.op]
    · rename_i a n a' n'
      by_cases c : a = a'
      · simp [c, Piece.op, es_app]
      · simp [c, Piece.op]
theorem deleted_push06 (ps : List Piece) (g : Int) (h0 : 0 ≤ g) (hl : ∀ n, ps.getLast? ≠ some (.del n)) : (deletedL ps g).map Piece.op = if 0 < g then push06 (ps.map Piece.op) (delO g) else ps.map Piece.op := by
  unfold deletedL
  by_cases c : g = 0
  · rw [if_pos c, if_neg (by omega)]
  · rw [if_neg c, if_pos (by omega), List.map_append, List.map_cons, List.map_nil]
    rcases snoc_cases ps with rfl | ⟨m, q, rfl⟩
    · rfl
    · rw [List.map_append, List.map_cons, List.map_nil, push06_snoc]
      have hq : ∀ n, q ≠ .del n := fun n e => hl n (by simp [e])
      cases q with
      | del n => exact absurd rfl (hq n)
      | ins a t n => simp [Piece.op, delO]
      | emb a t x => simp [Piece.op, delO]
      | ret a n => simp [Piece.op, delO]
theorem joined_last (ps : List Piece) (p : Piece) (hp : ∀ n, p ≠ .del n) : ∀ n, (joinedL ps p).getLast? ≠ some (.del n) := by
  intro n
  rcases snoc_cases ps with rfl | ⟨m, q, rfl⟩
  · simp only [joinedL, List.getLast?_nil, List.getLast?_singleton]
    exact fun e => hp n (Option.some.inj e)
  · rw [joinedL_snoc]
    cases h : joinTo q p with
    | none =>
      simp only [List.getLast?_append, List.getLast?_cons_cons, List.getLast?_singleton, Option.some_or]
      exact fun e => hp n (Option.some.inj e)
    | some r =>
      simp only [List.getLast?_append, List.getLast?_singleton, Option.some_or]
      intro e
      have e := Option.some.inj e
      subst e
      cases q <;> cases p <;> simp [joinTo] at h
/-- The builder's state and the reference's. -/
structure Sim (s : Bld) (out gap : List Op) (gone : Int) : Prop where
  pcs : s.pieces.map Piece.op = gap.foldl push06 out
  gn : s.gone = gone
  nn : 0 ≤ gone
  last : ∀ n, s.pieces.getLast? ≠ some (.del n)
theorem Sim.new : Sim .new [] [] 0 := ⟨rfl, rfl, by omega, by simp [Bld.new]⟩
theorem Sim.flush {s : Bld} {out gap : List Op} {gone : Int} (h : Sim s out gap gone) : (deletedL s.pieces s.gone).map Piece.op = flush06 out gap gone := by
  rw [deleted_push06 _ _ (by rw [h.gn]; exact h.nn) h.last, h.pcs, h.gn]
  rfl
theorem canon_sim {l : List Op} : ∀ {s : Bld} {out gap : List Op} {gone : Int}, Sim s out gap gone → (∀ o ∈ l, checkOp o = 0) → canonFrom out gap gone l = (deletedL (putAll s l).pieces (putAll s l).gone).map Piece.op := by
  induction l with
  | nil => intro s out gap gone h _; exact h.flush.symm
  | cons o l ih =>
    intro s out gap gone h hok
    have ho := hok o (by simp)
    have hr := fun {s out gap gone} (h : Sim s out gap gone) => ih h fun x hx => hok x (by simp [hx])
    have hop := op_toPiece ho
    have hk := ok_kind ho
    show canonFrom out gap gone (o :: l) = (deletedL (putAll (s.put (toPiece o)) l).pieces (putAll (s.put (toPiece o)) l).gone).map Piece.op
    simp only [canonFrom]
    rcases hk with k | k | k | k
    · have e : toPiece o = .ins o.attrs o.text (Lib.runeCount o.text) := by simp [toPiece, k]
      rw [if_pos (by simp [isIns, k])]
      refine hr ⟨?_, ?_, h.nn, ?_⟩
      · rw [List.foldl_append, List.foldl_cons, List.foldl_nil, ← h.pcs]
        exact (congrArg (List.map Piece.op) (show (s.put (toPiece o)).pieces = joinedL s.pieces (toPiece o) by rw [e]; rfl)).trans ((joined_push06 _ _ (by rw [e]; simp)).trans (by rw [hop]))
      · rw [e]; exact h.gn
      · rw [e]; exact joined_last _ _ (by simp)
    · have e : toPiece o = .emb o.attrs o.text o.val := by simp [toPiece, k]
      rw [if_pos (by simp [isIns, k])]
      refine hr ⟨?_, ?_, h.nn, ?_⟩
      · rw [List.foldl_append, List.foldl_cons, List.foldl_nil, ← h.pcs]
        exact (congrArg (List.map Piece.op) (show (s.put (toPiece o)).pieces = joinedL s.pieces (toPiece o) by rw [e]; rfl)).trans ((joined_push06 _ _ (by rw [e]; simp)).trans (by rw [hop]))
      · rw [e]; exact h.gn
      · rw [e]; exact joined_last _ _ (by simp)
    · have e : toPiece o = .ret o.attrs o.count := by simp [toPiece, k]
      rw [if_neg (by simp [isIns, k]), if_neg (by omega)]
      refine hr ⟨?_, ?_, by omega, ?_⟩
      · rw [List.foldl_nil, ← h.flush]
        exact (congrArg (List.map Piece.op) (show (s.put (toPiece o)).pieces = joinedL (deletedL s.pieces s.gone) (toPiece o) by rw [e]; rfl)).trans ((joined_push06 _ _ (by rw [e]; simp)).trans (by rw [hop]))
      · rw [e]; rfl
      · rw [e]; exact joined_last _ _ (by simp)
    · have e : toPiece o = .del o.count := by simp [toPiece, k]
      have hpos := count_pos ho k
      have hnn := h.nn
      rw [if_neg (by simp [isIns, k]), if_pos k]
      refine hr ⟨?_, ?_, by omega, ?_⟩
      · rw [e]; exact h.pcs
      · rw [e]; show s.gone + o.count = gone + o.count; rw [h.gn]
      · rw [e]; exact h.last
theorem trimmed_op (l : List Piece) : (trimmed l).map Piece.op = dropPlain (l.map Piece.op) := by
  rcases snoc_cases l with rfl | ⟨m, q, rfl⟩
  · rfl
  · unfold trimmed dropPlain
    simp only [List.map_append, List.map_cons, List.map_nil, List.getLast?_append, List.getLast?_singleton, Option.some_or]
    cases q with
    | del n => simp [Piece.op, plainO]
    | ins a t n => simp [Piece.op, plainO]
    | emb a t x => simp [Piece.op, plainO]
    | ret a n =>
      cases a with
      | nil => simp [Piece.op, plainO]
      | cons x a => simp [Piece.op, plainO]
/-- The canonical operations are the delta's. -/
theorem canon06_put {l : List Op} (h : ∀ o ∈ l, checkOp o = 0) : canon06 l = (putAll .new l).delta.map Piece.op := by
  unfold canon06 Bld.delta
  rw [canon_sim Sim.new h, trimmed_op]
/-- What is put when none is refused. -/
theorem push_put {l : List Op} : ∀ {s : Bld} {i : Nat}, (pushFrom s i l).2.2 = 0 → pushFrom s i l = (putAll s l, 0, 0) ∧ ∀ o ∈ l, checkOp o = 0 := by
  induction l with
  | nil => intro s i _; exact ⟨rfl, by simp⟩
  | cons o l ih =>
    intro s i h
    by_cases c : (s.push o).2 = 0
    · rw [pushFrom_ok c] at h ⊢
      obtain ⟨c1, c2, c3⟩ := push_ok c
      obtain ⟨e1, e2⟩ := ih h
      rw [e1, c3]
      refine ⟨rfl, ?_⟩
      intro x hx
      rcases List.mem_cons.1 hx with rfl | hx
      · exact c1
      · exact e2 x hx
    · rw [pushFrom_bad c] at h; exact absurd h c
theorem put_base (s : Bld) (o : Op) : (s.put (toPiece o)).base = s.base + (toPiece o).b ∧ (s.put (toPiece o)).result = s.result + (toPiece o).r := by
  cases h : toPiece o <;> simp [Bld.put, Piece.b, Piece.r]
/-- When all fit. -/
theorem push_fits {l : List Op} : ∀ {s : Bld} {i : Nat}, (∀ o ∈ l, checkOp o = 0 ∧ 0 ≤ rlen o) → s.base + sumB l ≤ 1099511627776 → s.result + sumR l ≤ 1099511627776 → pushFrom s i l = (putAll s l, 0, 0) := by
  induction l with
  | nil => intro s i _ _ _; rfl
  | cons o l ih =>
    intro s i h hb hr
    obtain ⟨ho, hlen⟩ := h o (by simp)
    have h' : ∀ x ∈ l, checkOp x = 0 ∧ 0 ≤ rlen x := fun x hx => h x (by simp [hx])
    have hbn : 0 ≤ sumB l := by
      clear hb hr ih h
      induction l with
      | nil => simp [sumB]
      | cons x l ih => simp only [sumB, baseO]; have := (h' x (by simp)).2; have := ih (fun y hy => h' y (by simp [hy])); split <;> omega
    have hrn : 0 ≤ sumR l := by
      clear hb hr ih h hbn
      induction l with
      | nil => simp [sumR]
      | cons x l ih => simp only [sumR, resO]; have := (h' x (by simp)).2; have := ih (fun y hy => h' y (by simp [hy])); split <;> omega
    simp only [sumB, sumR] at hb hr
    have hf : s.fits (toPiece o) = true := by
      unfold Bld.fits
      rw [piece_b ho, piece_r ho]
      exact decide_eq_true ⟨by omega, by omega⟩
    have hp : s.push o = (s.put (toPiece o), 0) := by simp [Bld.push, ho, hf]
    obtain ⟨e1, e2⟩ := put_base s o
    rw [piece_b ho] at e1
    rw [piece_r ho] at e2
    rw [pushFrom_ok (by rw [hp]), hp]
    exact ih h' (by rw [e1]; omega) (by rw [e2]; omega)
end Ve
