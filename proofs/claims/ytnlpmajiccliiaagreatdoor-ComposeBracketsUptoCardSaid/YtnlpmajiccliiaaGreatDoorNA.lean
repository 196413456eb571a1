/- Plain laws of patches: one over the other. -/
import Derived.Test.YtnlpmajiccliiaaGreatDoorG3
set_option linter.all false
namespace Ve
open Go Go.RowKit Go.Proofs

theorem bl_irrefl (x : List UInt8) : Op.bytesLess x x = false := by
  induction x with
  | nil => rfl
  | cons a x ih => simp [Op.bytesLess, ih]
theorem bl_trans : ∀ {x y z : List UInt8}, Op.bytesLess x y = true → Op.bytesLess y z = true → Op.bytesLess x z = true
  | [], [], _, h, _ => by simp [Op.bytesLess] at h
  | [], _ :: _, [], _, h => by simp [Op.bytesLess] at h
  | [], _ :: _, _ :: _, _, _ => rfl
  | _ :: _, [], _, h, _ => by simp [Op.bytesLess] at h
  | _ :: _, _ :: _, [], _, h => by simp [Op.bytesLess] at h
  | a :: x, b :: y, c :: z, h1, h2 => by
    simp only [Op.bytesLess, Bool.or_eq_true, Bool.and_eq_true, decide_eq_true_eq, beq_iff_eq] at h1 h2 ⊢
    rcases h1 with h1 | ⟨e1, h1⟩
    · rcases h2 with h2 | ⟨e2, h2⟩
      · left; rw [UInt8.lt_iff_toNat_lt] at *; omega
      · subst e2; exact .inl h1
    · subst e1
      rcases h2 with h2 | ⟨e2, h2⟩
      · exact .inl h2
      · exact .inr ⟨e2, bl_trans h1 h2⟩
theorem keyLt_irrefl (k : ByteArray) : keyLt k k = false := bl_irrefl _
theorem keyLt_trans {a b c : ByteArray} (h1 : keyLt a b = true) (h2 : keyLt b c = true) : keyLt a c = true := bl_trans h1 h2
theorem keyLt_tri {a b : ByteArray} (h1 : keyLt a b = false) (h2 : keyLt b a = false) : a = b := by
  have h := bl_total a.toList b.toList
  unfold keyLt at h1 h2
  rw [h1, h2] at h
  simp at h
  exact (toList_inj _ _).1 h
theorem keyLt_asymm {a b : ByteArray} (h : keyLt a b = true) : keyLt b a = false := by
  cases h2 : keyLt b a with
  | false => rfl
  | true => have := keyLt_trans h h2; rw [keyLt_irrefl] at this; cases this
/-- Rising behind a key. -/
def riseA : Option ByteArray → List Attr → Bool
  | _, [] => true
  | prev, a :: r => !notAfter prev a.key && riseA (some a.key) r
theorem check_iff {nulls : Bool} {l : List Attr} : ∀ {prev : Option ByteArray}, checkFrom nulls prev l = 0 ↔ (∀ a ∈ l, checkPair a = 0 ∧ (a.val.kind = 0 → nulls = true)) ∧ riseA prev l = true := by
  induction l with
  | nil => intro prev; simp [checkFrom, riseA]
  | cons a l ih =>
    intro prev
    simp only [checkFrom, riseA, List.mem_cons, forall_eq_or_imp, Bool.and_eq_true, Bool.not_eq_true']
    by_cases h1 : checkPair a = 0
    · rw [if_neg (by simp [h1])]
      by_cases h2 : a.val.kind = 0 ∧ nulls = false
      · rw [if_pos h2]
        refine ⟨fun h => by omega, fun ⟨⟨⟨_, h⟩, _⟩, _⟩ => ?_⟩
        have := h h2.1
        rw [h2.2] at this; cases this
      · rw [if_neg h2]
        have h2' : a.val.kind = 0 → nulls = true := fun h => by
          cases hn : nulls with
          | true => rfl
          | false => exact absurd ⟨h, hn⟩ h2
        cases h3 : notAfter prev a.key with
        | true => rw [if_pos rfl]; simp
        | false => rw [if_neg (by simp), ih]; exact ⟨fun ⟨h4, h5⟩ => ⟨⟨⟨h1, h2'⟩, h4⟩, rfl, h5⟩, fun ⟨⟨_, h4⟩, _, h5⟩ => ⟨h4, h5⟩⟩
    · rw [if_pos h1]
      exact ⟨fun h => absurd h h1, fun ⟨⟨⟨h, _⟩, _⟩, _⟩ => absurd h h1⟩
theorem rise_weak {p : Option ByteArray} {k : ByteArray} {l : List Attr} (h1 : notAfter p k = false) (h2 : riseA (some k) l = true) : riseA p l = true := by
  cases l with
  | nil => rfl
  | cons a l =>
    simp only [riseA, Bool.and_eq_true, Bool.not_eq_true'] at h2 ⊢
    refine ⟨?_, h2.2⟩
    cases p with
    | none => rfl
    | some p =>
      simp only [notAfter, Bool.not_eq_false'] at h1 h2 ⊢
      exact keyLt_trans h1 h2.1
/-- Patch b over patch a. -/
def mergeA : List Attr → List Attr → List Attr
  | [], b => b
  | x :: a, [] => x :: a
  | x :: a, y :: b => if keyLt x.key y.key = true then x :: mergeA a (y :: b) else if keyLt y.key x.key = true then y :: mergeA (x :: a) b else y :: mergeA a b
termination_by a b => a.length + b.length
theorem merge_nil (b : List Attr) : mergeA [] b = b := by rw [mergeA]
theorem merge_nil' (a : List Attr) : mergeA a [] = a := by cases a <;> rw [mergeA]
theorem merge_lt {x y : Attr} {a b : List Attr} (h : keyLt x.key y.key = true) : mergeA (x :: a) (y :: b) = x :: mergeA a (y :: b) := by rw [mergeA, if_pos h]
theorem merge_gt {x y : Attr} {a b : List Attr} (h : keyLt y.key x.key = true) : mergeA (x :: a) (y :: b) = y :: mergeA (x :: a) b := by
  rw [mergeA, if_neg (by rw [keyLt_asymm h]; simp), if_pos h]
theorem merge_eq {x y : Attr} {a b : List Attr} (h : x.key = y.key) : mergeA (x :: a) (y :: b) = y :: mergeA a b := by
  rw [mergeA, if_neg (by rw [h, keyLt_irrefl]; simp), if_neg (by rw [h, keyLt_irrefl]; simp)]
theorem merge_three (x y : Attr) : keyLt x.key y.key = true ∨ keyLt y.key x.key = true ∨ x.key = y.key := by
  cases h1 : keyLt x.key y.key with
  | true => exact .inl rfl
  | false =>
    cases h2 : keyLt y.key x.key with
    | true => exact .inr (.inl rfl)
    | false => exact .inr (.inr (keyLt_tri h1 h2))
theorem merge_all {P : Attr → Prop} : ∀ (n : Nat) (a b : List Attr), a.length + b.length ≤ n → (∀ z ∈ a, P z) → (∀ z ∈ b, P z) → ∀ z ∈ mergeA a b, P z := by
  intro n
  induction n with
  | zero =>
    intro a b hn ha hb
    obtain rfl : a = [] := List.eq_nil_of_length_eq_zero (by omega)
    rw [merge_nil]; exact hb
  | succ n ih =>
    intro a b hn ha hb
    cases a with
    | nil => rw [merge_nil]; exact hb
    | cons x a =>
      cases b with
      | nil => rw [merge_nil']; exact ha
      | cons y b =>
        simp only [List.length_cons] at hn
        rcases merge_three x y with h | h | h
        · rw [merge_lt h]
          intro z hz
          rcases List.mem_cons.1 hz with rfl | hz
          · exact ha _ (by simp)
          · exact ih a (y :: b) (by simp only [List.length_cons]; omega) (fun z hz => ha z (by simp [hz])) hb z hz
        · rw [merge_gt h]
          intro z hz
          rcases List.mem_cons.1 hz with rfl | hz
          · exact hb _ (by simp)
          · exact ih (x :: a) b (by simp only [List.length_cons]; omega) ha (fun z hz => hb z (by simp [hz])) z hz
        · rw [merge_eq h]
          intro z hz
          rcases List.mem_cons.1 hz with rfl | hz
          · exact hb _ (by simp)
          · exact ih a b (by omega) (fun z hz => ha z (by simp [hz])) (fun z hz => hb z (by simp [hz])) z hz
theorem merge_rise : ∀ (n : Nat) (p : Option ByteArray) (a b : List Attr), a.length + b.length ≤ n → riseA p a = true → riseA p b = true → riseA p (mergeA a b) = true := by
  intro n
  induction n with
  | zero =>
    intro p a b hn ha hb
    obtain rfl : a = [] := List.eq_nil_of_length_eq_zero (by omega)
    rw [merge_nil]; exact hb
  | succ n ih =>
    intro p a b hn ha hb
    cases a with
    | nil => rw [merge_nil]; exact hb
    | cons x a =>
      cases b with
      | nil => rw [merge_nil']; exact ha
      | cons y b =>
        simp only [List.length_cons] at hn
        have ha' := ha
        have hb' := hb
        simp only [riseA, Bool.and_eq_true, Bool.not_eq_true'] at ha hb
        rcases merge_three x y with h | h | h
        · rw [merge_lt h]
          simp only [riseA, Bool.and_eq_true, Bool.not_eq_true']
          refine ⟨ha.1, ih _ a (y :: b) (by simp only [List.length_cons]; omega) ha.2 ?_⟩
          simp only [riseA, Bool.and_eq_true, Bool.not_eq_true', notAfter, Bool.not_eq_false']
          exact ⟨h, hb.2⟩
        · rw [merge_gt h]
          simp only [riseA, Bool.and_eq_true, Bool.not_eq_true']
          refine ⟨hb.1, ih _ (x :: a) b (by simp only [List.length_cons]; omega) ?_ hb.2⟩
          simp only [riseA, Bool.and_eq_true, Bool.not_eq_true', notAfter, Bool.not_eq_false']
          exact ⟨h, ha.2⟩
        · rw [merge_eq h]
          simp only [riseA, Bool.and_eq_true, Bool.not_eq_true']
          exact ⟨hb.1, ih _ a b (by omega) (by rw [← h]; exact ha.2) hb.2⟩
theorem merge_len : ∀ (n : Nat) (a b : List Attr), a.length + b.length ≤ n → (mergeA a b).length ≤ a.length + b.length := by
  intro n
  induction n with
  | zero =>
    intro a b hn
    obtain rfl : a = [] := List.eq_nil_of_length_eq_zero (by omega)
    rw [merge_nil]; omega
  | succ n ih =>
    intro a b hn
    cases a with
    | nil => rw [merge_nil]; omega
    | cons x a =>
      cases b with
      | nil => rw [merge_nil']; omega
      | cons y b =>
        simp only [List.length_cons] at hn
        rcases merge_three x y with h | h | h
        · rw [merge_lt h]
          have := ih a (y :: b) (by simp only [List.length_cons]; omega)
          simp only [List.length_cons] at this ⊢; omega
        · rw [merge_gt h]
          have := ih (x :: a) b (by simp only [List.length_cons]; omega)
          simp only [List.length_cons] at this ⊢; omega
        · rw [merge_eq h]
          have := ih a b (by omega)
          simp only [List.length_cons] at this ⊢; omega
theorem merge_has : ∀ (n : Nat) (a b : List Attr), a.length + b.length ≤ n → ∀ y ∈ b, ∃ z ∈ mergeA a b, z.key = y.key := by
  intro n
  induction n with
  | zero =>
    intro a b hn y hy
    obtain rfl : b = [] := List.eq_nil_of_length_eq_zero (by omega)
    cases hy
  | succ n ih =>
    intro a b hn y hy
    cases a with
    | nil => rw [merge_nil]; exact ⟨y, hy, rfl⟩
    | cons x a =>
      cases b with
      | nil => cases hy
      | cons y0 b =>
        simp only [List.length_cons] at hn
        rcases merge_three x y0 with h | h | h
        · rw [merge_lt h]
          obtain ⟨z, hz, e⟩ := ih a (y0 :: b) (by simp only [List.length_cons]; omega) y hy
          exact ⟨z, by simp [hz], e⟩
        · rw [merge_gt h]
          rcases List.mem_cons.1 hy with rfl | hy
          · exact ⟨_, by simp, rfl⟩
          · obtain ⟨z, hz, e⟩ := ih (x :: a) b (by simp only [List.length_cons]; omega) y hy
            exact ⟨z, by simp [hz], e⟩
        · rw [merge_eq h]
          rcases List.mem_cons.1 hy with rfl | hy
          · exact ⟨_, by simp, rfl⟩
          · obtain ⟨z, hz, e⟩ := ih a b (by omega) y hy
            exact ⟨z, by simp [hz], e⟩
/-- Where both have a key, the one of a is passed over. -/
theorem merge_skip {x y : Attr} {a b : List Attr} (h : x.key = y.key) (hr : riseA (some x.key) a = true) : mergeA (x :: a) (y :: b) = mergeA a (y :: b) := by
  rw [merge_eq h]
  cases a with
  | nil => rw [merge_nil, merge_nil]
  | cons z a =>
    simp only [riseA, Bool.and_eq_true, Bool.not_eq_true', notAfter, Bool.not_eq_false'] at hr
    rw [merge_gt (by rw [← h]; exact hr.1)]
/-- A patch without its nulls. -/
def wholeA (l : List Attr) : List Attr := l.filter fun a => a.val.kind != 0
theorem whole_rise {l : List Attr} : ∀ {p : Option ByteArray}, riseA p l = true → riseA p (wholeA l) = true := by
  induction l with
  | nil => intro p _; rfl
  | cons a l ih =>
    intro p h
    simp only [riseA, Bool.and_eq_true, Bool.not_eq_true'] at h
    unfold wholeA
    rw [List.filter_cons]
    split
    · simp only [riseA, Bool.and_eq_true, Bool.not_eq_true']
      exact ⟨h.1, ih h.2⟩
    · exact rise_weak h.1 (ih h.2)
/-- First a, then b; nulls kept, or not. -/
def compA (nulls : Bool) (a b : List Attr) : List Attr := if nulls = true then mergeA a b else wholeA (mergeA a b)
theorem check_weak {l : List Attr} {nulls : Bool} (h : checkAttrs nulls l = 0) : checkAttrs true l = 0 := by
  unfold checkAttrs at h ⊢
  rw [check_iff] at h ⊢
  exact ⟨fun a ha => ⟨(h.1 a ha).1, fun _ => rfl⟩, h.2⟩
theorem comp_ok {a b : List Attr} (nulls : Bool) (ha : checkAttrs true a = 0) (hb : checkAttrs true b = 0) : checkAttrs nulls (compA nulls a b) = 0 := by
  unfold checkAttrs at *
  rw [check_iff] at ha hb ⊢
  have h1 : ∀ z ∈ mergeA a b, checkPair z = 0 := merge_all _ a b (Nat.le_refl _) (fun z hz => (ha.1 z hz).1) (fun z hz => (hb.1 z hz).1)
  have h2 := merge_rise _ none a b (Nat.le_refl _) ha.2 hb.2
  unfold compA
  cases nulls with
  | true => rw [if_pos rfl]; exact ⟨fun z hz => ⟨h1 z hz, fun _ => rfl⟩, h2⟩
  | false =>
    rw [if_neg (by simp)]
    refine ⟨fun z hz => ?_, whole_rise h2⟩
    unfold wholeA at hz
    rw [List.mem_filter] at hz
    exact ⟨h1 z hz.1, fun h => absurd h (by simpa using hz.2)⟩
theorem comp_len (nulls : Bool) (a b : List Attr) : (compA nulls a b).length ≤ a.length + b.length := by
  have h := merge_len _ a b (Nat.le_refl _)
  unfold compA wholeA
  split
  · exact h
  · exact Nat.le_trans (List.length_filter_le _ _) h
end Ve
