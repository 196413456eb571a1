/- Plain laws of UTF-8: what the reference decodes. -/
import Derived.Test.YtmdakddgeagnmaaDoorR2
import Derived.Lib.TrimUEq
set_option linter.all false
namespace Ve
open Go

theorem bytesOf_toList (l : List Nat) : (bytesOf l).toList = l.map UInt8.ofNat := by rw [ByteArray.toList_eq]; rfl
theorem ofNat_inj {a b : Nat} (ha : a < 256) (hb : b < 256) (h : UInt8.ofNat a = UInt8.ofNat b) : a = b := by
  have := congrArg UInt8.toNat h
  simp at this
  omega
theorem map_inj {l m : List Nat} (hl : ∀ a ∈ l, a < 256) (hm : ∀ a ∈ m, a < 256) (h : l.map UInt8.ofNat = m.map UInt8.ofNat) : l = m := by
  induction l generalizing m with
  | nil => cases m with
    | nil => rfl
    | cons b m => cases h
  | cons a l ih =>
    cases m with
    | nil => cases h
    | cons b m =>
      simp only [List.map_cons, List.cons.injEq] at h
      rw [ofNat_inj (hl a (by simp)) (hm b (by simp)) h.1, ih (fun x hx => hl x (by simp [hx])) (fun x hx => hm x (by simp [hx])) h.2]
theorem bytesOf_inj {l m : List Nat} (hl : ∀ a ∈ l, a < 256) (hm : ∀ a ∈ m, a < 256) : bytesOf l = bytesOf m ↔ l = m :=
  ⟨fun h => map_inj hl hm (by rw [← bytesOf_toList, ← bytesOf_toList, h]), fun h => by rw [h]⟩
theorem ext_list (s : ByteArray) (i k : Nat) : (s.extract i (i + k)).data.toList = (s.data.toList.drop i).take k := by
  rw [ByteArray.data_extract, Array.toList_extract, List.extract_eq_drop_take]
  congr 1; omega
theorem drop_byte (s : ByteArray) (i : Nat) (h : i < s.size) : s.data.toList.drop i = UInt8.ofNat (byte s i) :: s.data.toList.drop (i + 1) := by
  have h' : i < s.data.toList.length := by rw [Array.length_toList]; exact h
  rw [List.drop_eq_getElem_cons h']
  congr 1
  unfold byte
  rw [List.getD, List.getElem?_eq_getElem h']
  simp
theorem ba_ext {a b : ByteArray} (h : a.data.toList = b.data.toList) : a = b := by
  obtain ⟨⟨x⟩⟩ := a
  obtain ⟨⟨y⟩⟩ := b
  simpa using h
theorem ext1 (s : ByteArray) (i : Nat) (h : i + 1 ≤ s.size) : s.extract i (i + 1) = bytesOf [byte s i] := by
  apply ba_ext; rw [ext_list, drop_byte s i (by omega)]; simp [bytesOf]
theorem ext2 (s : ByteArray) (i : Nat) (h : i + 2 ≤ s.size) : s.extract i (i + 2) = bytesOf [byte s i, byte s (i + 1)] := by
  apply ba_ext; rw [ext_list, drop_byte s i (by omega), drop_byte s (i + 1) (by omega)]; simp [bytesOf]
theorem ext3 (s : ByteArray) (i : Nat) (h : i + 3 ≤ s.size) : s.extract i (i + 3) = bytesOf [byte s i, byte s (i + 1), byte s (i + 2)] := by
  apply ba_ext; rw [ext_list, drop_byte s i (by omega), drop_byte s (i + 1) (by omega), drop_byte s (i + 1 + 1) (by omega)]; simp [bytesOf]
theorem ext4 (s : ByteArray) (i : Nat) (h : i + 4 ≤ s.size) : s.extract i (i + 4) = bytesOf [byte s i, byte s (i + 1), byte s (i + 2), byte s (i + 3)] := by
  apply ba_ext; rw [ext_list, drop_byte s i (by omega), drop_byte s (i + 1) (by omega), drop_byte s (i + 1 + 1) (by omega), drop_byte s (i + 1 + 1 + 1) (by omega)]; simp [bytesOf]
def encL (r : Nat) : List Nat :=
  if r < 128 then [r] else if r < 2048 then [192 + r / 64, 128 + r % 64] else if r < 65536 then [224 + r / 4096, 128 + r / 64 % 64, 128 + r % 64]
  else [240 + r / 262144, 128 + r / 4096 % 64, 128 + r / 64 % 64, 128 + r % 64]
theorem encB_L (r : Nat) : encB r = bytesOf (encL r) := by unfold encB encL; repeat' split
                                                           all_goals rfl
theorem encL_lt {r : Nat} (h : r ≤ 1114111) : ∀ a ∈ encL r, a < 256 := by
  unfold encL
  repeat' split
  all_goals (simp; omega)
theorem enc_is {r : Nat} (h : r ≤ 1114111) {l : List Nat} (hl : ∀ a ∈ l, a < 256) : eqS (encB r) (bytesOf l) = decide (encL r = l) := by
  unfold eqS
  rw [encB_L, decide_eq_decide]
  exact bytesOf_inj (encL_lt h) hl
/-- The same, without a list. -/
def firstN (n b0 b1 b2 b3 : Nat) : Nat × Nat :=
  if b0 < 128 then (b0, 1)
  else if 194 ≤ b0 ∧ b0 < 224 ∧ 2 ≤ n ∧ b1 / 64 = 2 then ((b0 - 192) * 64 + b1 % 64, 2)
  else if 224 ≤ b0 ∧ b0 < 240 ∧ 3 ≤ n ∧ b1 / 64 = 2 ∧ b2 / 64 = 2 ∧ 2048 ≤ ((b0 - 224) * 64 + b1 % 64) * 64 + b2 % 64 ∧ (((b0 - 224) * 64 + b1 % 64) * 64 + b2 % 64 < 55296 ∨ 57344 ≤ ((b0 - 224) * 64 + b1 % 64) * 64 + b2 % 64) then (((b0 - 224) * 64 + b1 % 64) * 64 + b2 % 64, 3)
  else if 240 ≤ b0 ∧ 4 ≤ n ∧ b1 / 64 = 2 ∧ b2 / 64 = 2 ∧ b3 / 64 = 2 ∧ 65536 ≤ (((b0 - 240) * 64 + b1 % 64) * 64 + b2 % 64) * 64 + b3 % 64 ∧ (((b0 - 240) * 64 + b1 % 64) * 64 + b2 % 64) * 64 + b3 % 64 ≤ 1114111 then ((((b0 - 240) * 64 + b1 % 64) * 64 + b2 % 64) * 64 + b3 % 64, 4)
  else (0, 0)
theorem clean_bad0 : (if ((65533 : Nat), (1 : Nat)).1 = 65533 ∧ ((65533 : Nat), (1 : Nat)).2 < 2 then ((0 : Nat), (0 : Nat)) else (65533, 1)) = (0, 0) := rfl
theorem clean_ok0 (r w : Nat) (h : 2 ≤ w) : (if (r, w).1 = 65533 ∧ (r, w).2 < 2 then ((0 : Nat), (0 : Nat)) else (r, w)) = (r, w) := if_neg (by simp; omega)
def clean (p : Nat × Nat) : Nat × Nat := if p.1 = 65533 ∧ p.2 < 2 then (0, 0) else p
theorem clean_b : clean (65533, 1) = (0, 0) := rfl
theorem clean_2 (r w : Nat) (h : 2 ≤ w) : clean (r, w) = (r, w) := if_neg (by simp; omega)
theorem decN2 (n b0 b1 b2 b3 : Nat) (h : 194 ≤ b0) (h' : b0 < 224) (g : 2 ≤ n ∧ b1 / 64 = 2) : Lib.decodeN n b0 b1 b2 b3 = ((b0 - 192) * 64 + b1 % 64, 2) := by
  unfold Lib.decodeN
  rw [if_neg (show ¬ b0 < 128 by omega), if_pos (show b0 / 32 = 6 ∧ (1 < n ∧ b1 / 64 = 2) by omega), if_pos (show b0 % 32 * 64 + b1 % 64 ≥ 128 by omega), show b0 % 32 * 64 + b1 % 64 = (b0 - 192) * 64 + b1 % 64 by omega]
theorem decN2' (n b0 b1 b2 b3 : Nat) (h : 194 ≤ b0) (h' : b0 < 224) (g : ¬ (2 ≤ n ∧ b1 / 64 = 2)) : Lib.decodeN n b0 b1 b2 b3 = (65533, 1) := by
  unfold Lib.decodeN
  rw [if_neg (show ¬ b0 < 128 by omega), if_neg (show ¬ (b0 / 32 = 6 ∧ (1 < n ∧ b1 / 64 = 2)) by omega), if_neg (show ¬ (b0 / 16 = 14 ∧ (1 < n ∧ b1 / 64 = 2) ∧ (2 < n ∧ b2 / 64 = 2)) by omega),
    if_neg (show ¬ (b0 / 8 = 30 ∧ (1 < n ∧ b1 / 64 = 2) ∧ (2 < n ∧ b2 / 64 = 2) ∧ (3 < n ∧ b3 / 64 = 2)) by omega)]
theorem decN3 (n b0 b1 b2 b3 : Nat) (h : 224 ≤ b0) (h' : b0 < 240) : Lib.decodeN n b0 b1 b2 b3 = if 3 ≤ n ∧ b1 / 64 = 2 ∧ b2 / 64 = 2 ∧ 2048 ≤ ((b0 - 224) * 64 + b1 % 64) * 64 + b2 % 64 ∧ (((b0 - 224) * 64 + b1 % 64) * 64 + b2 % 64 < 55296 ∨ 57344 ≤ ((b0 - 224) * 64 + b1 % 64) * 64 + b2 % 64) then (((b0 - 224) * 64 + b1 % 64) * 64 + b2 % 64, 3) else (65533, 1) := by
  obtain ⟨R, hR⟩ : ∃ R, ((b0 - 224) * 64 + b1 % 64) * 64 + b2 % 64 = R := ⟨_, rfl⟩
  have hR' : b0 % 16 * 4096 + b1 % 64 * 64 + b2 % 64 = R := by omega
  unfold Lib.decodeN
  rw [if_neg (show ¬ b0 < 128 by omega), if_neg (show ¬ (b0 / 32 = 6 ∧ (1 < n ∧ b1 / 64 = 2)) by omega), hR, hR']
  by_cases d : b0 / 16 = 14 ∧ (1 < n ∧ b1 / 64 = 2) ∧ (2 < n ∧ b2 / 64 = 2)
  · rw [if_pos d]
    by_cases q : R ≥ 2048 ∧ (R < 55296 ∨ 57344 ≤ R ∧ R ≤ 1114111)
    · rw [if_pos q, if_pos (by omega)]
    · rw [if_neg q, if_neg (by omega)]
  · rw [if_neg d, if_neg (show ¬ (b0 / 8 = 30 ∧ (1 < n ∧ b1 / 64 = 2) ∧ (2 < n ∧ b2 / 64 = 2) ∧ (3 < n ∧ b3 / 64 = 2)) by omega), if_neg (by omega)]
theorem decN4 (n b0 b1 b2 b3 : Nat) (h : 240 ≤ b0) (h' : b0 < 256) : Lib.decodeN n b0 b1 b2 b3 = if 4 ≤ n ∧ b1 / 64 = 2 ∧ b2 / 64 = 2 ∧ b3 / 64 = 2 ∧ 65536 ≤ (((b0 - 240) * 64 + b1 % 64) * 64 + b2 % 64) * 64 + b3 % 64 ∧ (((b0 - 240) * 64 + b1 % 64) * 64 + b2 % 64) * 64 + b3 % 64 ≤ 1114111 then ((((b0 - 240) * 64 + b1 % 64) * 64 + b2 % 64) * 64 + b3 % 64, 4) else (65533, 1) := by
  obtain ⟨R, hR⟩ : ∃ R, (((b0 - 240) * 64 + b1 % 64) * 64 + b2 % 64) * 64 + b3 % 64 = R := ⟨_, rfl⟩
  unfold Lib.decodeN
  rw [if_neg (show ¬ b0 < 128 by omega), if_neg (show ¬ (b0 / 32 = 6 ∧ (1 < n ∧ b1 / 64 = 2)) by omega), if_neg (show ¬ (b0 / 16 = 14 ∧ (1 < n ∧ b1 / 64 = 2) ∧ (2 < n ∧ b2 / 64 = 2)) by omega), hR]
  by_cases e : b0 < 248
  · have hR' : b0 % 8 * 262144 + b1 % 64 * 4096 + b2 % 64 * 64 + b3 % 64 = R := by omega
    rw [hR']
    by_cases d : b0 / 8 = 30 ∧ (1 < n ∧ b1 / 64 = 2) ∧ (2 < n ∧ b2 / 64 = 2) ∧ (3 < n ∧ b3 / 64 = 2)
    · rw [if_pos d]
      by_cases q : R ≥ 65536 ∧ (R < 55296 ∨ 57344 ≤ R ∧ R ≤ 1114111)
      · rw [if_pos q, if_pos (by omega)]
      · rw [if_neg q, if_neg (by omega)]
    · rw [if_neg d, if_neg (by omega)]
  · rw [if_neg (show ¬ (b0 / 8 = 30 ∧ (1 < n ∧ b1 / 64 = 2) ∧ (2 < n ∧ b2 / 64 = 2) ∧ (3 < n ∧ b3 / 64 = 2)) by omega), if_neg (by omega)]
set_option maxHeartbeats 1000000 in
theorem decN_firstN (n b0 b1 b2 b3 : Nat) (h0 : b0 < 256) (h1 : b1 < 256) (h2 : b2 < 256) (h3 : b3 < 256) : clean (Lib.decodeN n b0 b1 b2 b3) = firstN n b0 b1 b2 b3 := by
  unfold firstN
  by_cases c1 : b0 < 128
  · have e : Lib.decodeN n b0 b1 b2 b3 = (b0, 1) := by simp [Lib.decodeN, c1]
    rw [e, if_pos c1]
    unfold clean
    rw [if_neg (by simp; omega)]
  rw [if_neg c1]
  by_cases c2 : b0 < 194
  · rw [Lib.decodeN_bad _ _ _ _ _ (by omega), clean_b, if_neg (by omega), if_neg (by omega), if_neg (by omega)]
  by_cases c3 : b0 < 224
  · rw [if_neg (show ¬ (224 ≤ b0 ∧ _) by omega), if_neg (show ¬ (240 ≤ b0 ∧ _) by omega)]
    by_cases d : 2 ≤ n ∧ b1 / 64 = 2
    · rw [decN2 n b0 b1 b2 b3 (by omega) c3 d, clean_2 _ _ (by omega), if_pos (by omega)]
    · rw [decN2' n b0 b1 b2 b3 (by omega) c3 d, clean_b, if_neg (by omega)]
  rw [if_neg (show ¬ (194 ≤ b0 ∧ b0 < 224 ∧ _) by omega)]
  by_cases c4 : b0 < 240
  · rw [if_neg (show ¬ (240 ≤ b0 ∧ _) by omega), decN3 n b0 b1 b2 b3 (by omega) c4]
    obtain ⟨R, hR⟩ : ∃ R, ((b0 - 224) * 64 + b1 % 64) * 64 + b2 % 64 = R := ⟨_, rfl⟩
    rw [hR]
    by_cases d : 3 ≤ n ∧ b1 / 64 = 2 ∧ b2 / 64 = 2 ∧ 2048 ≤ R ∧ (R < 55296 ∨ 57344 ≤ R)
    · rw [if_pos d, clean_2 _ _ (by omega), if_pos (by omega)]
    · rw [if_neg d, clean_b, if_neg (by omega)]
  · rw [if_neg (show ¬ (224 ≤ b0 ∧ b0 < 240 ∧ _) by omega), decN4 n b0 b1 b2 b3 (by omega) h0]
    obtain ⟨R, hR⟩ : ∃ R, (((b0 - 240) * 64 + b1 % 64) * 64 + b2 % 64) * 64 + b3 % 64 = R := ⟨_, rfl⟩
    rw [hR]
    by_cases d : 4 ≤ n ∧ b1 / 64 = 2 ∧ b2 / 64 = 2 ∧ b3 / 64 = 2 ∧ 65536 ≤ R ∧ R ≤ 1114111
    · rw [if_pos d, clean_2 _ _ (by omega), if_pos (by omega)]
    · rw [if_neg d, clean_b, if_neg (by omega)]
theorem dec_N (s : ByteArray) (i : Nat) (h : i < s.size) : dec s i = clean (Lib.decodeN (s.size - i) (byte s i) (byte s (i + 1)) (byte s (i + 2)) (byte s (i + 3))) := by
  unfold dec clean
  rw [if_pos h, Lib.decode_N]
  rfl
theorem isSc_nat (r : Nat) : isSc (r : Int) = decide (r < 55296 ∨ (57344 ≤ r ∧ r ≤ 1114111)) := by
  unfold isSc
  rw [decide_eq_decide]; omega
theorem cond_is (R : Nat) (l : List Nat) (hl : ∀ a ∈ l, a < 256) : (isSc (R : Int) && eqS (encB R) (bytesOf l)) = decide ((R < 55296 ∨ (57344 ≤ R ∧ R ≤ 1114111)) ∧ encL R = l) := by
  rw [isSc_nat]
  by_cases h : R < 55296 ∨ (57344 ≤ R ∧ R ≤ 1114111)
  · rw [enc_is (by omega) hl]; simp [h]
  · simp [h]
theorem ifb {α : Type} {p : Prop} [Decidable p] {a b : α} : (if decide p = true then a else b) = if p then a else b := by simp
theorem len_ne {l m : List Nat} (h : l.length ≠ m.length) : ¬ l = m := fun e => h (by rw [e])
theorem encL_1 {R : Nat} (h : R < 128) : encL R = [R] := by simp [encL, h]
theorem encL_2 {R : Nat} (h : 128 ≤ R) (h' : R < 2048) : encL R = [192 + R / 64, 128 + R % 64] := by unfold encL; rw [if_neg (by omega), if_pos h']
theorem encL_3 {R : Nat} (h : 2048 ≤ R) (h' : R < 65536) : encL R = [224 + R / 4096, 128 + R / 64 % 64, 128 + R % 64] := by unfold encL; rw [if_neg (by omega), if_neg (by omega), if_pos h']
theorem encL_4 {R : Nat} (h : 65536 ≤ R) : encL R = [240 + R / 262144, 128 + R / 4096 % 64, 128 + R / 64 % 64, 128 + R % 64] := by unfold encL; rw [if_neg (by omega), if_neg (by omega), if_neg (by omega)]
set_option maxHeartbeats 2000000 in
theorem firstR_dec (s : ByteArray) (i : Nat) (h : i < s.size) : firstR s i = dec s i := by
  have l0 := byte_lt s i
  have l1 := byte_lt s (i + 1)
  have l2 := byte_lt s (i + 2)
  have l3 := byte_lt s (i + 3)
  rw [dec_N s i h, decN_firstN _ _ _ _ _ l0 l1 l2 l3]
  have x1 := ext1 s i
  have x2 := ext2 s i
  have x3 := ext3 s i
  have x4 := ext4 s i
  unfold firstR
  obtain ⟨b0, e0⟩ : ∃ b, byte s i = b := ⟨_, rfl⟩
  obtain ⟨b1, e1⟩ : ∃ b, byte s (i + 1) = b := ⟨_, rfl⟩
  obtain ⟨b2, e2⟩ : ∃ b, byte s (i + 2) = b := ⟨_, rfl⟩
  obtain ⟨b3, e3⟩ : ∃ b, byte s (i + 3) = b := ⟨_, rfl⟩
  rw [e0] at l0 x1 x2 x3 x4
  rw [e1] at l1 x2 x3 x4
  rw [e2] at l2 x3 x4
  rw [e3] at l3 x4
  rw [e0, e1, e2, e3]
  by_cases c4 : 240 ≤ b0
  · simp only [hdC, hdR, if_pos c4, accR, Nat.reduceAdd, e1, e2, e3]
    obtain ⟨R, hR⟩ : ∃ R, (((b0 - 240) * 64 + b1 % 64) * 64 + b2 % 64) * 64 + b3 % 64 = R := ⟨_, rfl⟩
    unfold firstN
    rw [hR, if_neg (by omega : ¬ b0 < 128), if_neg (by omega : ¬ (194 ≤ b0 ∧ b0 < 224 ∧ 2 ≤ s.size - i ∧ b1 / 64 = 2)), if_neg (by omega : ¬ (224 ≤ b0 ∧ b0 < 240 ∧ _))]
    by_cases hn : s.size < i + 4
    · rw [if_pos hn, if_neg (by omega)]
    · rw [if_neg hn, x4 (by omega), cond_is _ _ (by simp; omega), ifb]
      by_cases g : R < 65536
      · rw [if_neg, if_neg (by omega)]
        rintro ⟨-, e⟩
        refine len_ne ?_ e
        rcases Nat.lt_or_ge R 128 with k | k
        · rw [encL_1 k]; simp
        · rcases Nat.lt_or_ge R 2048 with k' | k'
          · rw [encL_2 k k']; simp
          · rw [encL_3 k' g]; simp
      · rw [encL_4 (by omega)]
        simp only [List.cons.injEq, and_true]
        by_cases q : b1 / 64 = 2 ∧ b2 / 64 = 2 ∧ b3 / 64 = 2 ∧ R ≤ 1114111
        · rw [if_pos (by omega), if_pos (by omega)]
        · rw [if_neg (by omega), if_neg (by omega)]
  by_cases c3 : 224 ≤ b0
  · simp only [hdC, hdR, if_neg c4, if_pos c3, accR, Nat.reduceAdd, e1, e2, e3]
    obtain ⟨R, hR⟩ : ∃ R, ((b0 - 224) * 64 + b1 % 64) * 64 + b2 % 64 = R := ⟨_, rfl⟩
    unfold firstN
    rw [hR, if_neg (by omega : ¬ b0 < 128), if_neg (by omega : ¬ (194 ≤ b0 ∧ b0 < 224 ∧ 2 ≤ s.size - i ∧ b1 / 64 = 2)), if_neg (by omega : ¬ (240 ≤ b0 ∧ _))]
    by_cases hn : s.size < i + 3
    · rw [if_pos hn, if_neg (by omega)]
    · rw [if_neg hn, x3 (by omega), cond_is _ _ (by simp; omega), ifb]
      by_cases g : R < 2048
      · rw [if_neg, if_neg (by omega)]
        rintro ⟨-, e⟩
        refine len_ne ?_ e
        rcases Nat.lt_or_ge R 128 with k | k
        · rw [encL_1 k]; simp
        · rw [encL_2 k g]; simp
      · rw [encL_3 (by omega) (by omega)]
        simp only [List.cons.injEq, and_true]
        by_cases q : b1 / 64 = 2 ∧ b2 / 64 = 2 ∧ (R < 55296 ∨ 57344 ≤ R)
        · rw [if_pos (by omega), if_pos (by omega)]
        · rw [if_neg (by omega), if_neg (by omega)]
  by_cases c2 : 192 ≤ b0
  · simp only [hdC, hdR, if_neg c4, if_neg c3, if_pos c2, accR, Nat.reduceAdd, e1, e2, e3]
    obtain ⟨R, hR⟩ : ∃ R, (b0 - 192) * 64 + b1 % 64 = R := ⟨_, rfl⟩
    unfold firstN
    rw [hR, if_neg (by omega : ¬ b0 < 128), if_neg (by omega : ¬ (224 ≤ b0 ∧ b0 < 240 ∧ _)), if_neg (by omega : ¬ (240 ≤ b0 ∧ _))]
    by_cases hn : s.size < i + 2
    · rw [if_pos hn, if_neg (by omega)]
    · rw [if_neg hn, x2 (by omega), cond_is _ _ (by simp; omega), ifb]
      by_cases g : R < 128
      · rw [if_neg, if_neg (by omega)]
        rintro ⟨-, e⟩
        refine len_ne ?_ e
        rw [encL_1 g]; simp
      · rw [encL_2 (by omega) (by omega)]
        simp only [List.cons.injEq, and_true]
        by_cases q : b1 / 64 = 2
        · rw [if_pos (by omega), if_pos (by omega)]
        · rw [if_neg (by omega), if_neg (by omega)]
  · simp only [hdC, hdR, if_neg c4, if_neg c3, if_neg c2, accR, Nat.reduceAdd]
    unfold firstN
    rw [if_neg (by omega : ¬ s.size < i + 1), x1 (by omega), cond_is _ _ (by simp; omega), ifb]
    by_cases g : b0 < 128
    · rw [encL_1 g, if_pos (by simp; omega), if_pos g]
    · rw [if_neg g, if_neg (by omega : ¬ (194 ≤ b0 ∧ _)), if_neg (by omega : ¬ (224 ≤ b0 ∧ _)), if_neg (by omega : ¬ (240 ≤ b0 ∧ _)), if_neg]
      rintro ⟨-, e⟩
      rw [encL_2 (by omega) (by omega)] at e
      exact absurd (congrArg List.length e) (by simp)
end Ve
