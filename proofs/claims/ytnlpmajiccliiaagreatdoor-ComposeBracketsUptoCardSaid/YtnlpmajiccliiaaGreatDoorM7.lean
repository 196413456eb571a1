import Derived.Test.YtnlpmajiccliiaaGreatDoorM2
import Derived.Test.YtnlpmajiccliiaaGreatDoorB7
import Derived.Test.YtnlpmajiccliiaaGreatDoorL0
import Derived.Test.YtnlpmajiccliiaaGreatDoorW3
import Derived.Test.YtnlpmajiccliiaaGreatDoorT7
set_option linter.all false
/- measure.push, Concat, Shift; Document; Builder.Retain; Delta.Count. -/
namespace Ve
open Go Go.RowKit Go.Proofs


end Ve
/- Document, Builder.Retain, Delta.Count, Shift; vellumlaw08.is, of. -/
namespace Ve
open Go Go.RowKit Go.Proofs


end Ve
/- Shift; vellumlaw08.fixed; the law MeasureSums. -/
namespace Ve
open Go Go.RowKit Go.Proofs


end Ve
/- measure.Slice. -/
namespace Ve
open Go Go.RowKit Go.Proofs

theorem wnext_int {ea : Nat → Addr} (g : Nat) (lb : Option Nat) (ps : List Piece) (n : Int) (w : World) (hE : Env ea w) (hW : WalkX w g lb ps) (hok : PsOk ps) (h1 : 1 ≤ n) (hn : n ≤ 9223372036854775807) :
    Calls Tryz.prog 127 #[.pointer (some ⟨g, 0, none⟩), .int .i64 n] w fun e w' => ∃ pv lb', e = .returned (.tuple #[pv, .nilIface]) ∧ PieceV w' (nextP ps n).1 pv ∧ WalkX w' g lb' (nextP ps n).2 ∧
      (∀ b, lb' = some b → lb = some b ∨ w.heap.size ≤ b) ∧ Kg (fun b => b = g) wkT w w' := by
  obtain ⟨m, rfl⟩ : ∃ m : Nat, n = m := ⟨n.toNat, by omega⟩
  exact wnext_any g lb ps m w hE hW hok (by omega) (by omega)
end Ve
/- Documents one behind the other; the law MeasureCuts. -/
namespace Ve
open Go Go.RowKit Go.Proofs

theorem sep_of_apart {a b : Op} (ha : checkOp a = 0) (hb : checkOp b = 0) (h : apartO a b = true) : sepP (toPiece a) (toPiece b) = true := by
  refine joinTo_sep (joinTo_apart ha hb h) fun n k ⟨e1, e2⟩ => ?_
  have ka := ok_kind ha
  have kb := ok_kind hb
  have h4 : a.kind = 4 := by rcases ka with k | k | k | k <;> simp [toPiece, k] at e1 ⊢
  have h4' : b.kind = 4 := by rcases kb with k | k | k | k <;> simp [toPiece, k] at e2 ⊢
  simp [apartO, h4, h4'] at h
theorem sepF_of {l : List Op} : ∀ {a : Op}, checkOp a = 0 → (∀ o ∈ l, checkOp o = 0) → apartFrom a l = true → sepF (toPiece a) (l.map toPiece) = true := by
  induction l with
  | nil => intro a _ _ _; rfl
  | cons o l ih =>
    intro a ha hok h
    simp only [apartFrom, Bool.and_eq_true] at h
    simp only [List.map_cons, sepF, Bool.and_eq_true]
    exact ⟨sep_of_apart ha (hok o (by simp)) h.1, ih (hok o (by simp)) (fun x hx => hok x (by simp [hx])) h.2⟩
theorem canon_sep {l : List Op} (h : canonL l = true) : sepL (l.map toPiece) = true := by
  obtain ⟨h1, -, h3, -⟩ := canon_parts h
  cases l with
  | nil => rfl
  | cons o l => exact sepF_of (h1 o (by simp)) (fun x hx => h1 x (by simp [hx])) h3
theorem check_emb (k : ByteArray) (v : Plain) (a : List Attr) (h : checkOp ⟨2, k, v, 0, a⟩ = 0) : k.size ≤ 64 := by
  simp [checkOp, hasOnly, refuse] at h
  by_cases c : k = es ∨ 64 < k.size
  · rw [if_pos c] at h; omega
  · omega
theorem op_text {p : Piece} (h : pOk p) : p.op.text.size ≤ tsize p + 64 := by
  cases p with
  | ins a t n => simp [Piece.op, tsize]
  | emb a k v => have := check_emb k v a h.1; simp only [Piece.op, tsize]; omega
  | ret a n => exact Nat.zero_le _
  | del n => exact Nat.zero_le _
theorem opsum_ps {l : List Piece} (h : PsOk l) : opsum (l.map Piece.op) ≤ tsum l + 64 * l.length := by
  induction l with
  | nil => simp [opsum]
  | cons p l ih =>
    have h1 := op_text (h p (by simp))
    have h2 := ih fun x hx => h x (by simp [hx])
    have e1 : opsum ((p :: l).map Piece.op) = p.op.text.size + opsum (l.map Piece.op) := by simp [opsum]
    have e2 : tsum (p :: l) = tsize p + tsum l := by simp [tsum]
    rw [e1, e2, List.length_cons]; omega
theorem sums_ps {l : List Piece} (h : PsOk l) : sumB (l.map Piece.op) = bsum l ∧ sumR (l.map Piece.op) = rsum l := by
  have h1 := bsum_map h.ops
  have h2 := rsum_map h.ops
  rw [h.back] at h1 h2
  exact ⟨h1.symm, h2.symm⟩
end Ve
