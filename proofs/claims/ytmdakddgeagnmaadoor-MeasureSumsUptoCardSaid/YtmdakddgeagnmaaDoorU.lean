/- Plain laws of UTF-8: Go's ValidString and where a text breaks. -/
import Derived.Test.YtmdakddgeagnmaaDoorSpec
import Derived.Lib.TrimUEq
import Derived.Lib.TrimU
import Derived.Lib.QuoteLoop
set_option linter.all false
namespace Ve
open Go

theorem dec_cases (s : ByteArray) (i : Nat) (h : i < s.size) :
    (dec s i = (0, 0) ∧ (Utf8.decode s i).1 = 65533 ∧ (Utf8.decode s i).2 = 1) ∨ (dec s i = Utf8.decode s i ∧ 1 ≤ (Utf8.decode s i).2 ∧ ¬ ((Utf8.decode s i).1 = 65533 ∧ (Utf8.decode s i).2 = 1)) := by
  have h1 := Lib.decode_width_pos s i h
  unfold dec
  rw [if_pos h]
  by_cases c : (Utf8.decode s i).1 = 65533 ∧ (Utf8.decode s i).2 < 2
  · rw [if_pos c]; exact .inl ⟨rfl, c.1, by omega⟩
  · rw [if_neg c]; exact .inr ⟨rfl, h1, by omega⟩
theorem dec_end (s : ByteArray) (i : Nat) (h : ¬ i < s.size) : dec s i = (0, 0) := by unfold dec; rw [if_neg h]
theorem brkFrom_fuel (s : ByteArray) : ∀ f g i, s.size ≤ i + f → s.size ≤ i + g → brkFrom s f i = brkFrom s g i
  | 0, 0, _, _, _ => rfl
  | 0, g + 1, i, h, _ => by
    have e := dec_end s i (by omega)
    simp [brkFrom, e]
  | f + 1, 0, i, _, h => by
    have e := dec_end s i (by omega)
    simp [brkFrom, e]
  | f + 1, g + 1, i, h, h' => by
    simp only [brkFrom]
    by_cases c : (dec s i).2 = 0
    · rw [if_pos c, if_pos c]
    · rw [if_neg c, if_neg c]
      exact brkFrom_fuel s f g _ (by omega) (by omega)
theorem valid_from (s : ByteArray) : ∀ f i, i ≤ s.size → s.size ≤ i + f → Lib.validD (s.data.toList.drop i) = (brkFrom s f i == s.size)
  | f, i, hi, hf => by
    by_cases h : i < s.size
    · have hl : s.data.toList.length = s.size := by rw [Array.length_toList]; rfl
      have hne : s.data.toList.drop i ≠ [] := by
        intro e
        have := congrArg List.length e
        rw [List.length_drop, hl] at this
        simp at this; omega
      obtain ⟨f, rfl⟩ : ∃ m, f = m + 1 := ⟨f - 1, by omega⟩
      rw [Lib.validD_step _ hne, Lib.decodeL_drop]
      simp only [brkFrom]
      rcases dec_cases s i h with ⟨e, c1, c2⟩ | ⟨e, c1, c2⟩
      · rw [if_pos ⟨c1, c2⟩, e, if_pos rfl]
        symm
        rw [beq_eq_false_iff_ne]; omega
      · rw [if_neg c2, e, if_neg (by omega), List.drop_drop]
        have hle : (Utf8.decode s i).2 ≤ s.size - i := by
          rw [Lib.decode_at]; exact Lib.decodeN_width_le _ _ _ _ _ (by omega)
        exact valid_from s f _ (by omega) (by omega)
    · have e : i = s.size := by omega
      subst e
      have hl : s.data.toList.length = s.size := by rw [Array.length_toList]; rfl
      rw [List.drop_eq_nil_of_le (by omega), Lib.validD_nil]
      cases f with
      | zero => simp [brkFrom]
      | succ f => simp [brkFrom, dec_end s s.size (by omega)]
theorem valid_brk (s : ByteArray) : Lib.validD s.data.toList = validS s := by
  have := valid_from s s.size 0 (by omega) (by omega)
  rw [List.drop_zero] at this
  exact this
/-- The scalars from place i on, up to where s breaks. -/
def runesFrom (s : ByteArray) : Nat → Nat → List Nat
  | 0, _ => []
  | f + 1, i => if (dec s i).2 = 0 then [] else (dec s i).1 :: runesFrom s f (i + (dec s i).2)
def runes (s : ByteArray) : List Nat := runesFrom s s.size 0
theorem dec_le (s : ByteArray) (k : Nat) : (dec s k).2 ≤ s.size - k := by
  unfold dec
  by_cases h : k < s.size
  · rw [if_pos h]
    split
    · simp
    · rw [Lib.decode_at]; exact Lib.decodeN_width_le _ _ _ _ _ (by omega)
  · rw [if_neg h]; simp
theorem runesFrom_count (s : ByteArray) : ∀ f i, i ≤ s.size → s.size ≤ i + f → brkFrom s f i = s.size → (runesFrom s f i).length = Lib.runeCountFrom s f i
  | 0, i, _, _, _ => rfl
  | f + 1, i, hi, hf, hb => by
    simp only [brkFrom] at hb
    simp only [runesFrom, Lib.runeCountFrom]
    by_cases h : i < s.size
    · rcases dec_cases s i h with ⟨e, c1, c2⟩ | ⟨e, c1, c2⟩
      · rw [e, if_pos rfl] at hb; omega
      · have hle := dec_le s i
        rw [e] at hle hb ⊢
        rw [if_neg (by omega)] at hb ⊢
        rw [if_pos h, List.length_cons, runesFrom_count s f _ (by omega) (by omega) hb]; omega
    · rw [dec_end s i h, if_pos rfl, if_neg h]; rfl
theorem runes_count {s : ByteArray} (h : brk s = s.size) : (runes s).length = Lib.runeCount s :=
  runesFrom_count s _ _ (by omega) (by omega) h
theorem runesFrom_le (s : ByteArray) : ∀ f i, (runesFrom s f i).length ≤ f
  | 0, i => by simp [runesFrom]
  | f + 1, i => by
    simp only [runesFrom]
    split
    · simp
    · rw [List.length_cons]; exact Nat.succ_le_succ (runesFrom_le s f _)
theorem runes_le (s : ByteArray) : (runes s).length ≤ s.size := runesFrom_le s _ _
end Ve
