/- Arguments opened: a list of numbers that came in reads as plain data. -/
import Derived.Test.YtapolkhdikdjbaaGreatDoorA2
import Derived.Test.YtapolkhdikdjbaaGreatDoorRX
set_option linter.all false
namespace Ve
open Go Go.RowKit Go.Proofs Go.ChangeShapes Go.WideShapes Go.Proofs.YtapolkhdikdjbaaGreatDoor

section
variable {H : Type} {enc : TypeId × Value → H} {W : World} {base : Nat} {sp : Nat → Bool} {held : Bool}
theorem trod_ints {fuel : Nat} {v : Value} {x : DataW H × List MemPlace} (h : DataW.trod enc Tryz.prog W base sp held fuel 64 [v] = some x) (hb : Rows.uptoBulk x.1 ≤ 1048576) : ∃ l, RdInts W v l := by
  obtain ⟨l, hl, -⟩ := trod_rows IntR 1 (fun _ : Int => 0) Tryz.underlying64 (by kernel_rfl) (by omega) 1048576 (by omega) (fun fuel cs y h hb => by
    obtain ⟨n, e0, f0, wf⟩ := DataW.trod_int Tryz.underlying3 h
    refine ⟨n, ⟨e0, ?_⟩, by rw [f0]; simp [Rows.uptoBulk]⟩
    simp only [Lit.wf, Bool.and_eq_true, decide_eq_true_eq] at wf
    have := wf.2
    exact Int.le_trans this (by decide)) h hb
  exact ⟨l, hl⟩
end
end Ve
