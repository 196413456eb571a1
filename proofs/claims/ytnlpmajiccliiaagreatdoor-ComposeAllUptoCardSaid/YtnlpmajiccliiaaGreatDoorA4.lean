/- Arguments opened: a list of lists of operations that came in. -/
import Derived.Test.YtnlpmajiccliiaaGreatDoorA2
import Derived.Test.YtnlpmajiccliiaaGreatDoorNO
set_option linter.all false
namespace Ve
open Go Go.RowKit Go.Proofs Go.ChangeShapes Go.WideShapes Go.Proofs.YtnlpmajiccliiaaGreatDoor

section
variable {H : Type} {enc : TypeId × Value → H} {W : World} {base : Nat} {sp : Nat → Bool} {held : Bool}
theorem trod_lists {fuel : Nat} {v : Value} {x : DataW H × List MemPlace} (h : DataW.trod enc Tryz.prog W base sp held fuel 36 [v] = some x) (hb : Rows.uptoBulk x.1 ≤ 1048576) : ∃ ls, RdLs W v ls ∧ lsum ls ≤ 1048576 ∧ ls.length ≤ 1048576 := by
  obtain ⟨ls, hl, hs⟩ := trod_rows LsR 1 (fun l : List Op => opsum l + atsum l + l.length - 1) Tryz.underlying36 (by kernel_rfl) (by omega) 1048576 (by omega) (fun fuel cs y h hb => by
    have key : ∃ v, cs = [v] := by
      rcases Go.Deep.open_slice Tryz.underlying22 h with ⟨hcs, -⟩ | ⟨a, len, cap, m, n, D, Pl, hcs, -⟩
      · exact ⟨_, hcs⟩
      · exact ⟨_, hcs⟩
    obtain ⟨v, rfl⟩ := key
    obtain ⟨l, hl, hs⟩ := trod_opsA h hb
    have := bulk_one y.1
    exact ⟨l, ⟨v, rfl, hl⟩, by omega⟩) h hb
  refine ⟨ls, hl, ?_, by omega⟩
  have key : ∀ L : List (List Op), lsum L ≤ (L.map fun l : List Op => opsum l + atsum l + l.length - 1).sum + L.length := by
    intro L
    induction L with
    | nil => exact Nat.le_refl _
    | cons l L ih => simp only [lsum, List.map_cons, List.sum_cons, List.length_cons] at ih ⊢; omega
  have := key ls
  omega
end
end Ve
