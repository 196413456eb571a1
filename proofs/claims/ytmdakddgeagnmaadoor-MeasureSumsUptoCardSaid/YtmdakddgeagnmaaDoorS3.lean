/- Plain laws: a canonical list given to the builder is the delta's own list. -/
import Derived.Test.YtmdakddgeagnmaaDoorS1
import Derived.Test.YtmdakddgeagnmaaDoorR7
set_option linter.all false
namespace Ve
open Go

def sumB : List Op → Int
  | [] => 0
  | o :: l => baseO o + sumB l
def sumR : List Op → Int
  | [] => 0
  | o :: l => resO o + sumR l
theorem sumB_app (l m : List Op) : sumB (l ++ m) = sumB l + sumB m := by
  induction l with
  | nil => simp [sumB]
  | cons o l ih => simp only [List.cons_append, sumB, ih]; omega
theorem sumR_app (l m : List Op) : sumR (l ++ m) = sumR l + sumR m := by
  induction l with
  | nil => simp [sumR]
  | cons o l ih => simp only [List.cons_append, sumR, ih]; omega
theorem ok_kind {o : Op} (h : checkOp o = 0) : o.kind = 1 ∨ o.kind = 2 ∨ o.kind = 3 ∨ o.kind = 4 := by
  refine hasOnly_kind ?_
  cases hh : hasOnly o with
  | true => rfl
  | false => simp [checkOp, hh] at h
theorem ok_only {o : Op} (h : checkOp o = 0) : hasOnly o = true := by
  cases hh : hasOnly o with
  | true => rfl
  | false => simp [checkOp, hh] at h
/-- A well formed operation is told by its piece. -/
theorem op_toPiece {o : Op} (h : checkOp o = 0) : (toPiece o).op = o := by
  have h1 := ok_only h
  obtain ⟨k, t, v, c, l⟩ := o
  have hk := ok_kind h
  simp only at hk
  unfold hasOnly at h1
  rcases hk with rfl | rfl | rfl | rfl
  · simp at h1
    obtain ⟨h1, h2⟩ := h1
    subst h1; subst h2; rfl
  · simp at h1
    subst h1; rfl
  · simp at h1
    obtain ⟨h1, h2⟩ := h1
    subst h1; subst h2; rfl
  · simp at h1
    obtain ⟨⟨h1, h2⟩, h3⟩ := h1
    subst h1; subst h2; subst h3; rfl
theorem piece_b {o : Op} (h : checkOp o = 0) : (toPiece o).b = baseO o := by
  have hl := rlen_ok h
  have hk := ok_kind h
  unfold baseO
  unfold toPiece at hl ⊢
  rcases hk with k | k | k | k <;> simp [k] at hl ⊢ <;> simp [Piece.b, Piece.len] at hl ⊢
  · exact hl.symm
  · exact hl.symm
theorem piece_r {o : Op} (h : checkOp o = 0) : (toPiece o).r = resO o := by
  have hl := rlen_ok h
  have hk := ok_kind h
  unfold resO
  unfold toPiece at hl ⊢
  rcases hk with k | k | k | k <;> simp [k] at hl ⊢ <;> simp [Piece.r, Piece.len] at hl ⊢
  · exact hl.symm
  · exact hl.symm
  · exact hl.symm
theorem joinTo_apart {a o : Op} (ha : checkOp a = 0) (ho : checkOp o = 0) (h : apartO a o = true) : joinTo (toPiece a) (toPiece o) = none := by
  have ka := ok_kind ha
  have ko := ok_kind ho
  obtain ⟨k, t, v, c, l⟩ := a
  obtain ⟨k', t', v', c', l'⟩ := o
  simp only at ka ko
  rcases ka with rfl | rfl | rfl | rfl <;> rcases ko with rfl | rfl | rfl | rfl <;> simp [apartO] at h <;> simp [toPiece, joinTo, h]
theorem joinedL_miss' {l : List Piece} {q p : Piece} (h : joinTo q p = none) : joinedL (l ++ [q]) p = l ++ [q, p] := by
  rw [joinedL_snoc, h]
/-- The builder's state behind a canonical list. -/
def St (s : Bld) (p : List Op) : Prop :=
  s.base = sumB p ∧ s.result = sumR p ∧ (∀ o ∈ p, checkOp o = 0) ∧
  ((s.pieces = p.map toPiece ∧ s.gone = 0 ∧ ∀ o, p.getLast? = some o → o.kind ≠ 4) ∨
   ∃ q d, p = q ++ [d] ∧ d.kind = 4 ∧ s.pieces = q.map toPiece ∧ s.gone = d.count ∧ ∀ o, q.getLast? = some o → o.kind ≠ 4)
theorem St.new : St .new [] := ⟨rfl, rfl, by simp, .inl ⟨rfl, rfl, by simp⟩⟩
theorem snoc_ops (l : List Op) : l = [] ∨ ∃ m q, l = m ++ [q] := by
  rcases List.eq_nil_or_concat l with h | ⟨m, q, h⟩
  · exact .inl h
  · exact .inr ⟨m, q, by simpa using h⟩
theorem joined_apart {p : List Op} {o : Op} (hp : ∀ x ∈ p, checkOp x = 0) (ho : checkOp o = 0) (h : ∀ x, p.getLast? = some x → apartO x o = true) : joinedL (p.map toPiece) (toPiece o) = (p ++ [o]).map toPiece := by
  rcases snoc_ops p with rfl | ⟨m, q, rfl⟩
  · simp [joinedL]
  · have := joinTo_apart (hp q (by simp)) ho (h q (by simp))
    rw [List.map_append, List.map_cons, List.map_nil, joinedL_miss' this]
    simp
theorem count_pos {o : Op} (h : checkOp o = 0) (hk : o.kind = 4) : 1 ≤ o.count := by
  unfold checkOp at h
  rw [hk] at h
  split at h
  · omega
  · simp at h
    by_cases c : o.count < 1
    · rw [if_pos c] at h; omega
    · omega
theorem St.push {s : Bld} {p : List Op} {o : Op} (h : St s p) (ho : checkOp o = 0) (hb : sumB p + baseO o ≤ 1099511627776) (hr : sumR p + resO o ≤ 1099511627776) (ha : ∀ x, p.getLast? = some x → apartO x o = true) :
    (s.push o).2 = 0 ∧ St (s.push o).1 (p ++ [o]) := by
  obtain ⟨h1, h2, hok, h3⟩ := h
  have eb := piece_b ho
  have er := piece_r ho
  have hf : s.fits (toPiece o) = true := by
    unfold Bld.fits
    rw [eb, er, h1, h2]
    exact decide_eq_true ⟨hb, hr⟩
  have hpush : s.push o = (s.put (toPiece o), 0) := by simp [Bld.push, ho, hf]
  rw [hpush]
  refine ⟨rfl, ?_⟩
  have hok' : ∀ x ∈ p ++ [o], checkOp x = 0 := by
    intro x hx
    rcases List.mem_append.1 hx with hx | hx
    · exact hok x hx
    · rw [List.mem_singleton.1 hx]; exact ho
  have base : (s.put (toPiece o)).base = sumB (p ++ [o]) := by
    rw [sumB_app]
    simp only [sumB]
    rw [← eb, ← h1]
    unfold Bld.put
    cases toPiece o <;> simp [Piece.b]
  have result : (s.put (toPiece o)).result = sumR (p ++ [o]) := by
    rw [sumR_app]
    simp only [sumR]
    rw [← er, ← h2]
    unfold Bld.put
    cases toPiece o <;> simp [Piece.r]
  refine ⟨base, result, hok', ?_⟩
  have hk := ok_kind ho
  rcases h3 with ⟨g1, g2, g3⟩ | ⟨q, d, rfl, hd, g1, g2, g3⟩
  · by_cases h4 : o.kind = 4
    · right
      refine ⟨p, o, rfl, h4, ?_, ?_, g3⟩
      · have : toPiece o = .del o.count := by simp [toPiece, h4]
        rw [this]; exact g1
      · have : toPiece o = .del o.count := by simp [toPiece, h4]
        rw [this]; show s.gone + o.count = o.count; rw [g2]; omega
    · left
      refine ⟨?_, ?_, by simp; exact h4⟩
      · rw [← joined_apart hok ho ha, ← g1]
        rcases hk with k | k | k | k
        · have : toPiece o = .ins o.attrs o.text (Lib.runeCount o.text) := by simp [toPiece, k]
          rw [this]; rfl
        · have : toPiece o = .emb o.attrs o.text o.val := by simp [toPiece, k]
          rw [this]; rfl
        · have : toPiece o = .ret o.attrs o.count := by simp [toPiece, k]
          rw [this]
          simp [Bld.put, g2, deletedL]
        · exact absurd k h4
      · rcases hk with k | k | k | k
        · have : toPiece o = .ins o.attrs o.text (Lib.runeCount o.text) := by simp [toPiece, k]
          rw [this]; exact g2
        · have : toPiece o = .emb o.attrs o.text o.val := by simp [toPiece, k]
          rw [this]; exact g2
        · have : toPiece o = .ret o.attrs o.count := by simp [toPiece, k]
          rw [this]; rfl
        · exact absurd k h4
  · have hap := ha d (by simp)
    have h3 : o.kind = 3 := by simpa [apartO, hd] using hap
    have hdo : checkOp d = 0 := hok d (by simp)
    have hto : toPiece o = .ret o.attrs o.count := by simp [toPiece, h3]
    have htd : toPiece d = .del d.count := by simp [toPiece, hd]
    have hpos := count_pos hdo hd
    left
    refine ⟨?_, by rw [hto]; rfl, by simp; omega⟩
    rw [← joined_apart hok ho ha, hto]
    show joinedL (deletedL s.pieces s.gone) _ = _
    rw [g1, g2]
    unfold deletedL
    rw [if_neg (by omega), List.map_append, List.map_cons, List.map_nil, htd]
theorem lensFrom_zero {b r : Int} {o : Op} {l : List Op} (h : (lensFrom b r (o :: l)).2.2 = 0) : b + baseO o ≤ 1099511627776 ∧ r + resO o ≤ 1099511627776 ∧ lensFrom b r (o :: l) = lensFrom (b + baseO o) (r + resO o) l := by
  simp only [lensFrom] at h ⊢
  by_cases c : 1099511627776 < b + baseO o ∨ 1099511627776 < r + resO o
  · rw [if_pos c] at h; simp at h
  · rw [if_neg c]; exact ⟨by omega, by omega, rfl⟩
def lastApart (p : List Op) (l : List Op) : Prop := ∀ x, p.getLast? = some x → apartFrom x l = true
theorem St.all {s : Bld} {p l : List Op} (h : St s p) : ∀ i, (∀ o ∈ l, checkOp o = 0) → (lensFrom (sumB p) (sumR p) l).2.2 = 0 → (p = [] → apartAll l = true) → lastApart p l →
    ∃ s', pushFrom s i l = (s', 0, 0) ∧ St s' (p ++ l) := by
  induction l generalizing s p with
  | nil => intro i _ _ _ _; exact ⟨s, rfl, by simpa using h⟩
  | cons o l ih =>
    intro i hok hl h0 hap
    have ho := hok o (by simp)
    obtain ⟨l1, l2, l3⟩ := lensFrom_zero hl
    have hao : ∀ x, p.getLast? = some x → apartO x o = true := by
      intro x hx
      have := hap x hx
      simp [apartFrom] at this
      exact this.1
    have hfrom : apartFrom o l = true := by
      rcases snoc_ops p with rfl | ⟨m, q, rfl⟩
      · exact h0 rfl
      · have := hap q (by simp)
        simp [apartFrom] at this
        exact this.2
    obtain ⟨e, hs⟩ := h.push ho l1 l2 hao
    obtain ⟨s', e', hs'⟩ := ih hs (i + 1) (fun x hx => hok x (by simp [hx])) (by rw [sumB_app, sumR_app]; simp only [sumB, sumR, Int.add_zero]; rw [← l3]; exact hl) (by simp) (by
      intro x hx
      simp at hx
      subst hx
      exact hfrom)
    refine ⟨s', ?_, by simpa using hs'⟩
    simp only [pushFrom]
    rw [if_neg (by rw [e]; simp)]
    exact e'
theorem St.delta {s : Bld} {l : List Op} (h : St s l) (hl : lastOk l = true) : s.delta = l.map toPiece := by
  obtain ⟨-, -, hok, h3⟩ := h
  unfold Bld.delta
  rcases h3 with ⟨g1, g2, g3⟩ | ⟨q, d, rfl, hd, g1, g2, g3⟩
  · rw [g1, g2]
    unfold deletedL
    rw [if_pos rfl]
    rcases snoc_ops l with rfl | ⟨m, o, rfl⟩
    · rfl
    · unfold trimmed
      simp only [List.map_append, List.map_cons, List.map_nil, List.getLast?_append, List.getLast?_singleton, Option.some_or]
      have ho := hok o (by simp)
      have hk := ok_kind ho
      simp [lastOk] at hl
      rcases hk with k | k | k | k <;> simp [toPiece, k] at hl ⊢
      cases ha : o.attrs with
      | nil => exact absurd ha hl
      | cons a r => rfl
  · have hpos := count_pos (hok d (by simp)) hd
    have htd : toPiece d = .del d.count := by simp [toPiece, hd]
    rw [g1, g2]
    unfold deletedL
    rw [if_neg (by omega), List.map_append, List.map_cons, List.map_nil, htd]
    unfold trimmed
    simp
theorem canon_parts {l : List Op} (h : canonL l = true) : (∀ o ∈ l, checkOp o = 0) ∧ (lensFrom 0 0 l).2.2 = 0 ∧ apartAll l = true ∧ lastOk l = true := by
  unfold canonL at h
  simp only [Bool.and_eq_true, beq_iff_eq] at h
  obtain ⟨h1, h2, h3⟩ := h
  have hb : (bad l).2 = 0 := by
    unfold lensL at h1
    by_cases c : (bad l).2 = 0
    · exact c
    · rw [if_pos c] at h1; exact h1
  refine ⟨bad_zero hb, ?_, h2, h3⟩
  unfold lensL at h1
  rw [if_neg (by simp [hb])] at h1
  exact h1
/-- A canonical list is made to the delta of its own pieces. -/
theorem canon_push {l : List Op} (h : canonL l = true) : ∃ s, pushAll l = (s, 0, 0) ∧ s.delta = l.map toPiece := by
  obtain ⟨h1, h2, h3, h4⟩ := canon_parts h
  obtain ⟨s, e, hs⟩ := St.new.all (l := l) 0 h1 h2 (fun _ => h3) (by intro x hx; simp at hx)
  exact ⟨s, e, hs.delta h4⟩
theorem map_op {l : List Op} (h : ∀ o ∈ l, checkOp o = 0) : (l.map toPiece).map Piece.op = l := by
  rw [List.map_map]
  conv => rhs; rw [← List.map_id l]
  exact List.map_congr_left fun o ho => op_toPiece (h o ho)
theorem good_all {l : List Op} (h : ∀ o ∈ l, checkOp o = 0) : ∀ p ∈ l.map toPiece, p.good := by
  intro p hp
  obtain ⟨o, ho, rfl⟩ := List.mem_map.1 hp
  exact good_of (h o ho)
theorem lensFrom_sum {l : List Op} : ∀ {b r : Int}, (lensFrom b r l).2.2 = 0 → b ≤ 1099511627776 → r ≤ 1099511627776 → lensFrom b r l = (b + sumB l, r + sumR l, 0) ∧ b + sumB l ≤ 1099511627776 ∧ r + sumR l ≤ 1099511627776 := by
  induction l with
  | nil => intro b r h hb hr; exact ⟨by simp [lensFrom, sumB, sumR], by simpa [sumB] using hb, by simpa [sumR] using hr⟩
  | cons o l ih =>
    intro b r h hb hr
    obtain ⟨l1, l2, l3⟩ := lensFrom_zero h
    rw [l3] at h ⊢
    obtain ⟨e1, e2, e3⟩ := ih h l1 l2
    simp only [sumB, sumR]
    rw [e1]
    refine ⟨?_, by omega, by omega⟩
    rw [Int.add_assoc, Int.add_assoc]
end Ve
