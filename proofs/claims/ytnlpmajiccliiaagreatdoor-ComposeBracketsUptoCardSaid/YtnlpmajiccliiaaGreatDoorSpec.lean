/- Plain data of the program vellum: values, attributes, operations, pieces; nothing of Go or memory. -/
import Derived.WalkKit
import GoSem.Core.Utf8
import Derived.Lib.RuneCount
import Derived.Lib.ValidLaws
import Derived.Lib.TrimUEq
import Derived.Lib.TrimU
import Derived.Lib.QuoteLoop
set_option linter.all false
namespace Ve
/-- A value as plain data. -/
structure Plain where
  kind : Int
  num : Int
  text : ByteArray
  deriving DecidableEq
/-- An attribute. -/
structure Attr where
  key : ByteArray
  val : Plain
  deriving DecidableEq
/-- An operation as plain data. -/
structure Op where
  kind : Int
  text : ByteArray
  val : Plain
  count : Int
  attrs : List Attr
  deriving DecidableEq
/-- A piece of a delta. -/
inductive Piece where
  | ins (attrs : List Attr) (text : ByteArray) (len : Int)
  | emb (attrs : List Attr) (kind : ByteArray) (val : Plain)
  | ret (attrs : List Attr) (count : Int)
  | del (count : Int)
  deriving DecidableEq
instance : Inhabited Plain := ⟨⟨0, 0, ⟨#[]⟩⟩⟩
instance : Inhabited Attr := ⟨⟨⟨#[]⟩, default⟩⟩
instance : Inhabited Op := ⟨⟨0, ⟨#[]⟩, default, 0, []⟩⟩
instance : Inhabited Piece := ⟨.del 0⟩
end Ve
/- What the functions of the lower layers compute, on plain data. -/
namespace Ve
open Go

/-! Layer 1: UTF-8. -/
/-- The scalar that begins at place i, and its bytes; 0 bytes: there is none. -/
def dec (s : ByteArray) (i : Nat) : Nat × Nat :=
  if i < s.size then (if (Utf8.decode s i).1 = 65533 ∧ (Utf8.decode s i).2 < 2 then (0, 0) else Utf8.decode s i) else (0, 0)
def brkFrom (s : ByteArray) : Nat → Nat → Nat
  | 0, i => i
  | f + 1, i => if (dec s i).2 = 0 then i else brkFrom s f (i + (dec s i).2)
/-- Where s breaks; its size, if it doesn't. -/
def brk (s : ByteArray) : Nat := brkFrom s s.size 0
def validS (s : ByteArray) : Bool := brk s == s.size
def lenS (s : ByteArray) : Int := if validS s then Lib.runeCount s else 0
theorem lenS_ok {s : ByteArray} (h : brk s = s.size) : lenS s = Lib.runeCount s := by simp [lenS, validS, h]
attribute [irreducible] lenS
def utf8Err (s : ByteArray) : Int := if brk s = s.size then 0 else 1

/-! Layer 2: values. -/
def es : ByteArray := ⟨#[]⟩
def kindOk (p : Plain) : Bool :=
  if p.kind = 0 then p.num = 0 && p.text = es
  else if p.kind = 1 then (p.num = 0 || p.num = 1) && p.text = es
  else if p.kind = 2 then p.text = es
  else if p.kind = 3 then p.num = 0
  else false
def checkPlain (p : Plain) : Int := if kindOk p then (if brk p.text = p.text.size then (if 1048576 < p.text.size then 10 else 0) else 1) else 5

/-! Layer 3: attributes. -/
def keyLt (a b : ByteArray) : Bool := Op.bytesLess a.toList b.toList
def checkPair (a : Attr) : Int :=
  if a.key = es ∨ 64 < a.key.size then 6 else if brk a.key = a.key.size then checkPlain a.val else 1
def notAfter (prev : Option ByteArray) (k : ByteArray) : Bool := match prev with | some p => !keyLt p k | none => false
def checkFrom (nulls : Bool) : Option ByteArray → List Attr → Int
  | _, [] => 0
  | prev, a :: r => if checkPair a ≠ 0 then checkPair a else if a.val.kind = 0 ∧ nulls = false then 7
      else if notAfter prev a.key = true then 8 else checkFrom nulls (some a.key) r
def checkAttrs (nulls : Bool) (l : List Attr) : Int := checkFrom nulls none l

/-! Layer 4, 5: inserts, operations. -/
def ep : Plain := ⟨0, 0, es⟩
def refuse (o : Op) : Int :=
  if o.kind ≠ 1 ∧ o.kind ≠ 2 then 5
  else if o.count ≠ 0 then 9
  else if o.kind = 1 ∧ (o.text = es ∨ o.val ≠ ep) then 9
  else if o.kind = 2 ∧ (o.text = es ∨ 64 < o.text.size) then 6
  else if brk o.text ≠ o.text.size then 1
  else if o.kind = 2 ∧ checkPlain o.val ≠ 0 then checkPlain o.val
  else checkAttrs false o.attrs
def hasOnly (o : Op) : Bool :=
  if o.kind = 1 then o.count = 0 && o.val = ep
  else if o.kind = 2 then o.count = 0
  else if o.kind = 3 then o.text = es && o.val = ep
  else if o.kind = 4 then o.text = es && o.val = ep && o.attrs.length = 0
  else false
def maxLength : Int := 1099511627776
def checkOp (o : Op) : Int :=
  if hasOnly o = false then 9
  else if o.kind = 1 ∨ o.kind = 2 then refuse o
  else if o.count < 1 then 9
  else if maxLength < o.count then 11
  else if o.kind = 4 then 0
  else checkAttrs true o.attrs
def toPiece (o : Op) : Piece :=
  if o.kind = 1 then .ins o.attrs o.text (Lib.runeCount o.text)
  else if o.kind = 2 then .emb o.attrs o.text o.val
  else if o.kind = 4 then .del o.count
  else .ret o.attrs o.count
/-- The number of the first operation that is refused, and its error; 0 and 0: none is. -/
def badFrom (i : Nat) : List Op → Nat × Int
  | [] => (0, 0)
  | o :: r => if checkOp o ≠ 0 then (i, checkOp o) else badFrom (i + 1) r
def bad (l : List Op) : Nat × Int := badFrom 0 l
namespace Piece
def len : Piece → Int
  | .ins _ _ n => n
  | .emb _ _ _ => 1
  | .ret _ n => n
  | .del n => n
def op : Piece → Op
  | .ins as t _ => ⟨1, t, ep, 0, as⟩
  | .emb as k v => ⟨2, k, v, 0, as⟩
  | .ret as n => ⟨3, es, ep, n, as⟩
  | .del n => ⟨4, es, ep, n, []⟩
def attrs : Piece → List Attr
  | .ins as _ _ => as
  | .emb as _ _ => as
  | .ret as _ => as
  | .del _ => []
end Piece

/-! Layer 6: the builder. -/
structure Bld where
  base : Int
  result : Int
  pieces : List Piece
  gone : Int
def joinTo : Piece → Piece → Option Piece
  | .ins a t n, .ins a' t' n' => if a = a' then some (.ins a (t ++ t') (n + n')) else none
  | .ret a n, .ret a' n' => if a = a' then some (.ret a (n + n')) else none
  | _, _ => none
def joinedL (l : List Piece) (p : Piece) : List Piece :=
  match l.getLast? with
  | none => [p]
  | some q => match joinTo q p with
    | some r => l.set (l.length - 1) r
    | none => l ++ [p]
def deletedL (l : List Piece) (gone : Int) : List Piece := if gone = 0 then l else l ++ [.del gone]
def Piece.b : Piece → Int
  | .del n => n
  | .ret _ n => n
  | _ => 0
def Piece.r : Piece → Int
  | .ins _ _ n => n
  | .emb _ _ _ => 1
  | .ret _ n => n
  | .del _ => 0
def Bld.fits (s : Bld) (p : Piece) : Bool := decide (s.base + p.b ≤ 1099511627776 ∧ s.result + p.r ≤ 1099511627776)
def Bld.put (s : Bld) (p : Piece) : Bld :=
  match p with
  | .del n => ⟨s.base + n, s.result, s.pieces, s.gone + n⟩
  | .ret a n => ⟨s.base + n, s.result + n, joinedL (deletedL s.pieces s.gone) (.ret a n), 0⟩
  | p => ⟨s.base + p.b, s.result + p.r, joinedL s.pieces p, s.gone⟩
def Bld.push (s : Bld) (o : Op) : Bld × Int :=
  if checkOp o ≠ 0 then (s, checkOp o) else if s.fits (toPiece o) = false then (s, 11) else (s.put (toPiece o), 0)
def Bld.new : Bld := ⟨0, 0, [], 0⟩
def trimmed (l : List Piece) : List Piece :=
  match l.getLast? with
  | some (.ret [] _) => l.dropLast
  | _ => l
def Bld.delta (s : Bld) : List Piece := trimmed (deletedL s.pieces s.gone)
def pushFrom (s : Bld) (i : Nat) : List Op → Bld × Nat × Int
  | [] => (s, 0, 0)
  | o :: r => if (s.push o).2 ≠ 0 then (s, i, (s.push o).2) else pushFrom (s.push o).1 (i + 1) r
def pushAll (l : List Op) : Bld × Nat × Int := pushFrom .new 0 l
end Ve
/- Plain laws of UTF-8: Go's ValidString and where a text breaks. -/
namespace Ve
open Go

theorem dec_cases (s : ByteArray) (i : Nat) (h : i < s.size) :
    (dec s i = (0, 0) ∧ (Utf8.decode s i).1 = 65533 ∧ (Utf8.decode s i).2 = 1) ∨ (dec s i = Utf8.decode s i ∧ 1 ≤ (Utf8.decode s i).2 ∧ ¬ ((Utf8.decode s i).1 = 65533 ∧ (Utf8.decode s i).2 = 1)) := by
  have h1 := Lib.decode_width_pos s i h
  unfold dec
  rw [if_pos h]
  by_cases c : (Utf8.decode s i).1 = 65533 ∧ (Utf8.decode s i).2 < 2
  · rw [if_pos c]; exact .inl ⟨rfl, c.1, by omega⟩
  · rw [if_neg c]; exact .inr ⟨rfl, h1, by omega⟩
theorem dec_end (s : ByteArray) (i : Nat) (h : ¬ i < s.size) : dec s i = (0, 0) := by unfold dec; rw [if_neg h]
theorem valid_from (s : ByteArray) : ∀ f i, i ≤ s.size → s.size ≤ i + f → Lib.validD (s.data.toList.drop i) = (brkFrom s f i == s.size)
  | f, i, hi, hf => by
    by_cases h : i < s.size
    · have hl : s.data.toList.length = s.size := by rw [Array.length_toList]; rfl
      have hne : s.data.toList.drop i ≠ [] := by
        intro e
        have := congrArg List.length e
        rw [List.length_drop, hl] at this
        simp at this; omega
      obtain ⟨f, rfl⟩ : ∃ m, f = m + 1 := ⟨f - 1, by omega⟩
      rw [Lib.validD_step _ hne, Lib.decodeL_drop]
      simp only [brkFrom]
      rcases dec_cases s i h with ⟨e, c1, c2⟩ | ⟨e, c1, c2⟩
      · rw [if_pos ⟨c1, c2⟩, e, if_pos rfl]
        symm
        rw [beq_eq_false_iff_ne]; omega
      · rw [if_neg c2, e, if_neg (by omega), List.drop_drop]
        have hle : (Utf8.decode s i).2 ≤ s.size - i := by
          rw [Lib.decode_at]; exact Lib.decodeN_width_le _ _ _ _ _ (by omega)
        exact valid_from s f _ (by omega) (by omega)
    · have e : i = s.size := by omega
      subst e
      have hl : s.data.toList.length = s.size := by rw [Array.length_toList]; rfl
      rw [List.drop_eq_nil_of_le (by omega), Lib.validD_nil]
      cases f with
      | zero => simp [brkFrom]
      | succ f => simp [brkFrom, dec_end s s.size (by omega)]
theorem valid_brk (s : ByteArray) : Lib.validD s.data.toList = validS s := by
  have := valid_from s s.size 0 (by omega) (by omega)
  rw [List.drop_zero] at this
  exact this
/-- The scalars from place i on, up to where s breaks. -/
def runesFrom (s : ByteArray) : Nat → Nat → List Nat
  | 0, _ => []
  | f + 1, i => if (dec s i).2 = 0 then [] else (dec s i).1 :: runesFrom s f (i + (dec s i).2)
def runes (s : ByteArray) : List Nat := runesFrom s s.size 0
theorem dec_le (s : ByteArray) (k : Nat) : (dec s k).2 ≤ s.size - k := by
  unfold dec
  by_cases h : k < s.size
  · rw [if_pos h]
    split
    · simp
    · rw [Lib.decode_at]; exact Lib.decodeN_width_le _ _ _ _ _ (by omega)
  · rw [if_neg h]; simp
theorem runesFrom_count (s : ByteArray) : ∀ f i, i ≤ s.size → s.size ≤ i + f → brkFrom s f i = s.size → (runesFrom s f i).length = Lib.runeCountFrom s f i
  | 0, i, _, _, _ => rfl
  | f + 1, i, hi, hf, hb => by
    simp only [brkFrom] at hb
    simp only [runesFrom, Lib.runeCountFrom]
    by_cases h : i < s.size
    · rcases dec_cases s i h with ⟨e, c1, c2⟩ | ⟨e, c1, c2⟩
      · rw [e, if_pos rfl] at hb; omega
      · have hle := dec_le s i
        rw [e] at hle hb ⊢
        rw [if_neg (by omega)] at hb ⊢
        rw [if_pos h, List.length_cons, runesFrom_count s f _ (by omega) (by omega) hb]; omega
    · rw [dec_end s i h, if_pos rfl, if_neg h]; rfl
theorem runes_count {s : ByteArray} (h : brk s = s.size) : (runes s).length = Lib.runeCount s :=
  runesFrom_count s _ _ (by omega) (by omega) h
theorem runesFrom_le (s : ByteArray) : ∀ f i, (runesFrom s f i).length ≤ f
  | 0, i => by simp [runesFrom]
  | f + 1, i => by
    simp only [runesFrom]
    split
    · simp
    · rw [List.length_cons]; exact Nat.succ_le_succ (runesFrom_le s f _)
theorem runes_le (s : ByteArray) : (runes s).length ≤ s.size := runesFrom_le s _ _
end Ve
