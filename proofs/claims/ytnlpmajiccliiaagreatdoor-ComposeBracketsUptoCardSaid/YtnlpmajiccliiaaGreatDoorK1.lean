/- Closed facts of the program: types, errors, comparisons; what every walk needs. -/
import Derived.Test.YtnlpmajiccliiaaGreatDoorProg
import Derived.Test.YtnlpmajiccliiaaGreatDoorMem3
import Derived.Test.YtnlpmajiccliiaaGreatDoorSpec
import Derived.Test.YtnlpmajiccliiaaGreatDoorShelf
import Derived.Shelf.Unicode.ValidAny
import Derived.WalkLawsBesides
import Derived.WalkSpells
import Derived.Deep.Light
import Derived.BigQuiet
import Derived.Deep.QuietTactic
import Derived.Laws.StructEq
import Derived.LaidEql
import Derived.WideLaws
set_option linter.all false
namespace Ve
open Go Go.RowKit Go.Proofs

/-! Errors. -/
/-- The error with a number; 0: none. -/
def errOf (ea : Nat → Addr) (c : Int) : Value := if c = 0 then .nilIface else .iface 245 (.pointer (some (ea c.toNat)))
theorem errOf_zero (ea : Nat → Addr) : errOf ea 0 = .nilIface := rfl
theorem errOf_pos (ea : Nat → Addr) {c : Int} (h : c ≠ 0) : errOf ea c = .iface 245 (.pointer (some (ea c.toNat))) := if_neg h
theorem methods_error : Tryz.prog.underlying 28 = some (.interface (Tryz.prog.methodsAt 28)) := by kernel_rfl
theorem eql_err (ea : Nat → Addr) (c : Int) (w : World) : (binOp .eql 28 (errOf ea c) .nilIface).run Tryz.prog w = .ok (.bool (decide (c = 0))) w := by
  by_cases h : c = 0
  · subst h; rw [errOf_zero, run_eql_nil_nil w _ methods_error]; rfl
  · rw [errOf_pos _ h, run_eql_held_nil w _ _ _ methods_error]; simp [h]
theorem neq_err (ea : Nat → Addr) (c : Int) (w : World) : (binOp .neq 28 (errOf ea c) .nilIface).run Tryz.prog w = .ok (.bool (!decide (c = 0))) w := by
  by_cases h : c = 0
  · subst h; rw [errOf_zero, run_neq_nil_nil w _ methods_error]; rfl
  · rw [errOf_pos _ h, run_neq_held_nil w _ _ _ methods_error]; simp [h]
theorem guard_err (ea : Nat → Addr) (op : BinOp) (t : TypeId) (x : Operand) (v : Value) (c : Int) : eqGuard op t x (.const v) (errOf ea c) .nilIface = pure () := by
  by_cases h : c = 0
  · subst h; rw [errOf_zero]; cases op <;> cases x <;> rfl
  · rw [errOf_pos _ h]; cases op <;> rfl
attribute [go_sem high] eql_err neq_err guard_err
attribute [irreducible] errOf

/-- What start-up code has laid: the errors that every law lists, the tables of UTF-8. -/
structure Env (ea : Nat → Addr) (w : World) : Prop where
  tabs : Lib.Utf8Tabs 19 20 w
  e1 : w.cell? ⟨3, 0, none⟩ = some (errOf ea 1)
  e5 : w.cell? ⟨7, 0, none⟩ = some (errOf ea 5)
  e6 : w.cell? ⟨8, 0, none⟩ = some (errOf ea 6)
  e7 : w.cell? ⟨9, 0, none⟩ = some (errOf ea 7)
  e8 : w.cell? ⟨10, 0, none⟩ = some (errOf ea 8)
  e9 : w.cell? ⟨1, 0, none⟩ = some (errOf ea 9)
  e10 : w.cell? ⟨11, 0, none⟩ = some (errOf ea 10)
  e11 : w.cell? ⟨0, 0, none⟩ = some (errOf ea 11)
  e12 : w.cell? ⟨2, 0, none⟩ = some (errOf ea 12)
theorem cell_lt {w : World} {b o : Nat} {v : Value} (h : w.cell? ⟨b, o, none⟩ = some v) : b < w.heap.size := World.block_lt_of_cell? w _ h
theorem heap_lt {w : World} {b : Nat} {o : Obj} (h : w.heap[b]? = some o) : b < w.heap.size := (Array.getElem?_eq_some_iff.1 h).1
theorem Env.gr {ea : Nat → Addr} {w w' : World} (h : Env ea w) (g : Gr w w') : Env ea w' := {
  tabs := Utf8Tabs_below h.tabs g
  e1 := g.cell h.e1
  e5 := g.cell h.e5
  e6 := g.cell h.e6
  e7 := g.cell h.e7
  e8 := g.cell h.e8
  e9 := g.cell h.e9
  e10 := g.cell h.e10
  e11 := g.cell h.e11
  e12 := g.cell h.e12
  }
/-- All errors, and that no two are one. -/
structure Env19 (ea : Nat → Addr) (w : World) : Prop where
  env : Env ea w
  e2 : w.cell? ⟨4, 0, none⟩ = some (errOf ea 2)
  e3 : w.cell? ⟨5, 0, none⟩ = some (errOf ea 3)
  e4 : w.cell? ⟨6, 0, none⟩ = some (errOf ea 4)
  e13 : w.cell? ⟨12, 0, none⟩ = some (errOf ea 13)
  e14 : w.cell? ⟨13, 0, none⟩ = some (errOf ea 14)
  e15 : w.cell? ⟨14, 0, none⟩ = some (errOf ea 15)
  e16 : w.cell? ⟨15, 0, none⟩ = some (errOf ea 16)
  e17 : w.cell? ⟨16, 0, none⟩ = some (errOf ea 17)
  e18 : w.cell? ⟨17, 0, none⟩ = some (errOf ea 18)
  e19 : w.cell? ⟨18, 0, none⟩ = some (errOf ea 19)
  apart : ∀ i j, 1 ≤ i → i ≤ 19 → 1 ≤ j → j ≤ 19 → ea i = ea j → i = j
  block : ∀ i, 1 ≤ i → i ≤ 19 → ∃ c t, w.heap[(ea i).block]? = some (.cells c t (0, 0))
theorem Env19.gr {ea : Nat → Addr} {w w' : World} (h : Env19 ea w) (g : Gr w w') : Env19 ea w' := {
  env := h.env.gr g
  e2 := g.cell h.e2
  e3 := g.cell h.e3
  e4 := g.cell h.e4
  e13 := g.cell h.e13
  e14 := g.cell h.e14
  e15 := g.cell h.e15
  e16 := g.cell h.e16
  e17 := g.cell h.e17
  e18 := g.cell h.e18
  e19 := g.cell h.e19
  apart := h.apart
  block := fun i h1 h2 => by
    obtain ⟨c, t, e⟩ := h.block i h1 h2
    exact ⟨c, t, (g.block (heap_lt e)).trans e⟩ }

/-! Comparisons of strings and structs, as one Bool each. -/
theorem toList_inj (a b : ByteArray) : a.toList = b.toList ↔ a = b := by
  rw [ByteArray.toList_eq, ByteArray.toList_eq]
  obtain ⟨⟨x⟩⟩ := a
  obtain ⟨⟨y⟩⟩ := b
  simp
def eqS (a b : ByteArray) : Bool := decide (a = b)
theorem eql_str (t : TypeId) (a b : ByteArray) : binOp .eql t (.string a) (.string b) = pure (.bool (eqS a b)) := by
  rw [binOp_string_eql]
  congr 2
  unfold eqS
  rw [Bool.eq_iff_iff]
  simp [toList_inj]
theorem neq_str (t : TypeId) (a b : ByteArray) : binOp .neq t (.string a) (.string b) = pure (.bool (!eqS a b)) := by
  rw [binOp_string_neq]
  congr 3
  unfold eqS
  rw [Bool.eq_iff_iff]
  simp [toList_inj]
theorem bl_total (a b : List UInt8) : (Op.bytesLess a b || a == b) = !Op.bytesLess b a := by
  induction a generalizing b with
  | nil => cases b <;> simp [Op.bytesLess]
  | cons x a ih =>
    cases b with
    | nil => simp [Op.bytesLess]
    | cons y b =>
      simp only [Op.bytesLess]
      have ih' := ih b
      by_cases h1 : x < y
      · have h2 : ¬ y < x := by rw [UInt8.lt_iff_toNat_lt] at *; omega
        have h3 : ¬ y = x := by rintro rfl; exact h2 h1
        simp [h1, h2, h3]
      · by_cases h2 : x = y
        · subst h2
          simpa using ih'
        · have h3 : y < x := by
            rw [UInt8.lt_iff_toNat_lt] at *
            have : x.toNat ≠ y.toNat := fun e => h2 (UInt8.toNat_inj.1 e)
            omega
          simp [h1, h2, h3]
theorem lss_str (t : TypeId) (a b : ByteArray) : binOp .lss t (.string a) (.string b) = pure (.bool (keyLt a b)) := binOp_string_lss t a b
theorem leq_str (t : TypeId) (a b : ByteArray) : binOp .leq t (.string a) (.string b) = pure (.bool (!keyLt b a)) := by
  rw [binOp_string_leq, bl_total]; rfl
theorem gtr_str (t : TypeId) (a b : ByteArray) : binOp .gtr t (.string a) (.string b) = pure (.bool (keyLt b a)) := by
  rw [binOp_string_gtr, bl_total]; simp [keyLt]
theorem geq_str (t : TypeId) (a b : ByteArray) : binOp .geq t (.string a) (.string b) = pure (.bool (!keyLt a b)) := by
  rw [binOp_string_geq]; rfl
attribute [go_sem high] eql_str neq_str lss_str leq_str gtr_str geq_str
def eqP (a : Int) (b : Int) (t : ByteArray) (a' : Int) (b' : Int) (t' : ByteArray) : Bool := decide (a = a' ∧ b = b' ∧ t = t')
def eqA (k : ByteArray) (a : Int) (b : Int) (t : ByteArray) (k' : ByteArray) (a' : Int) (b' : Int) (t' : ByteArray) : Bool := decide (k = k' ∧ a = a' ∧ b = b' ∧ t = t')
theorem equal_plain (d : Nat) (a : Int) (b : Int) (t : ByteArray) (a' : Int) (b' : Int) (t' : ByteArray) (w : World) :
    (Op.equalIn (d + 2) 60 (.agg #[.int .i64 a, .int .i64 b, .string t]) (.agg #[.int .i64 a', .int .i64 b', .string t'])).run Tryz.prog w = .ok (eqP a b t a' b' t') w := by
  go_simp
  unfold eqP
  simp only [toList_inj]
  split <;> simp_all
  split <;> simp_all
  split <;> simp_all
theorem equal_attr (d : Nat) (k : ByteArray) (a : Int) (b : Int) (t : ByteArray) (k' : ByteArray) (a' : Int) (b' : Int) (t' : ByteArray) (w : World) :
    (Op.equalIn (d + 3) 176 (.agg #[.string k, .int .i64 a, .int .i64 b, .string t]) (.agg #[.string k', .int .i64 a', .int .i64 b', .string t'])).run Tryz.prog w = .ok (eqA k a b t k' a' b' t') w := by
  go_simp
  unfold eqA
  simp only [toList_inj]
  split <;> simp_all
  split <;> simp_all
  split <;> simp_all
  split <;> simp_all
theorem eql_plain (a : Int) (b : Int) (t : ByteArray) (a' : Int) (b' : Int) (t' : ByteArray) (w : World) :
    (binOp .eql 60 (.agg #[.int .i64 a, .int .i64 b, .string t]) (.agg #[.int .i64 a', .int .i64 b', .string t'])).run Tryz.prog w = .ok (.bool (eqP a b t a' b' t')) w := by
  rw [run_eql_struct, equal_plain 9998]; rfl
theorem neq_plain (a : Int) (b : Int) (t : ByteArray) (a' : Int) (b' : Int) (t' : ByteArray) (w : World) :
    (binOp .neq 60 (.agg #[.int .i64 a, .int .i64 b, .string t]) (.agg #[.int .i64 a', .int .i64 b', .string t'])).run Tryz.prog w = .ok (.bool (!eqP a b t a' b' t')) w := by
  rw [run_neq_struct, equal_plain 9998]; rfl
theorem eql_attr (k : ByteArray) (a : Int) (b : Int) (t : ByteArray) (k' : ByteArray) (a' : Int) (b' : Int) (t' : ByteArray) (w : World) :
    (binOp .eql 176 (.agg #[.string k, .int .i64 a, .int .i64 b, .string t]) (.agg #[.string k', .int .i64 a', .int .i64 b', .string t'])).run Tryz.prog w = .ok (.bool (eqA k a b t k' a' b' t')) w := by
  rw [run_eql_struct, equal_attr 9997]; rfl
theorem neq_attr (k : ByteArray) (a : Int) (b : Int) (t : ByteArray) (k' : ByteArray) (a' : Int) (b' : Int) (t' : ByteArray) (w : World) :
    (binOp .neq 176 (.agg #[.string k, .int .i64 a, .int .i64 b, .string t]) (.agg #[.string k', .int .i64 a', .int .i64 b', .string t'])).run Tryz.prog w = .ok (.bool (!eqA k a b t k' a' b' t')) w := by
  rw [run_neq_struct, equal_attr 9997]; rfl
attribute [go_sem high] eql_plain neq_plain eql_attr neq_attr
theorem eqA_eq (x y : Attr) : eqA x.key x.val.kind x.val.num x.val.text y.key y.val.kind y.val.num y.val.text = decide (x = y) := by
  unfold eqA
  obtain ⟨k, a, b, t⟩ := x
  obtain ⟨k', a', b', t'⟩ := y
  simp
theorem ret_bool {a b : Bool} (h : a = b) : Ending.returned (.bool a) = .returned (.bool b) := by rw [h]
theorem ret_int {k : IntKind} {a b : Int} (h : a = b) : Ending.returned (.int k a) = .returned (.int k b) := by rw [h]
theorem ret_err {ea : Nat → Addr} {a b : Int} (h : a = b) : Ending.returned (errOf ea a) = .returned (errOf ea b) := by rw [h]
theorem ret_ii {k k' : IntKind} {a b c d : Int} (h : a = b) (h' : c = d) : Ending.returned (.tuple #[.int k a, .int k' c]) = .returned (.tuple #[.int k b, .int k' d]) := by rw [h, h']
theorem ret_ie {ea : Nat → Addr} {k : IntKind} {a b c d : Int} (h : a = b) (h' : c = d) : Ending.returned (.tuple #[.int k a, errOf ea c]) = .returned (.tuple #[.int k b, errOf ea d]) := by rw [h, h']
theorem ret_in {ea : Nat → Addr} {k : IntKind} {a b d : Int} (h : a = b) (h' : d = 0) : Ending.returned (.tuple #[.int k a, .nilIface]) = .returned (.tuple #[.int k b, errOf ea d]) := by rw [h, h', errOf_zero]
theorem ret_nil {ea : Nat → Addr} {d : Int} (h' : d = 0) : Ending.returned .nilIface = .returned (errOf ea d) := by rw [h', errOf_zero]
attribute [go_sem] Lib.run_eql_slice_nil
/-! The library's. -/
theorem valid_any {ea : Nat → Addr} (s : ByteArray) (w : World) (hE : Env ea w) (hs : s.size ≤ 9223372036854775807) :
    Calls Tryz.prog 197 #[.string s] w fun e w' => e = .returned (.bool (Lib.validD s.data.toList)) ∧ Gr w w' :=
  Any.utf8_ValidString Tryz.lays196 s w hs hE.tabs
theorem decode_any {ea : Nat → Addr} (s : ByteArray) (w : World) (hE : Env ea w) :
    Calls Tryz.prog 205 #[.string s] w fun e w' => e = .returned (.tuple #[.int .i32 (Lib.decodeGo s).1, .int .i64 (Lib.decodeGo s).2]) ∧ Gr w w' :=
  Tryz.utf8_DecodeRuneInString s w hE.tabs
theorem Gr.iter {a w : World} (h : Gr a w) (s : ByteArray) (p : Nat) : Gr a (w.iter s p) := h.alloc _
theorem count_any (s : ByteArray) (w : World) (hs : s.size < 9223372036854775807) :
    Calls Tryz.prog 201 #[.string s] w fun e w' => e = .returned (.int .i64 (Lib.runeCount s)) ∧ Gr w w' :=
  (Tryz.utf8_RuneCountInString s w hs).mono fun _ _ h => ⟨h.1, by obtain ⟨p, rfl⟩ := h.2; exact (Gr.refl w).iter s p⟩
end Ve
