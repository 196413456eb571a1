import Derived.Test.YtnlpmajiccliiaaGreatDoorRB
set_option linter.all false
/- Walks: vellumref04.Same, SameOps; vellumspare; vellummade. -/
namespace Ve
open Go Go.RowKit Go.Proofs


end Ve
/- Walks: vellumspare.Copy, Heavy; vellummade.Delta, Is. -/
namespace Ve
open Go Go.RowKit Go.Proofs

theorem OwnOps.setNew {base : Nat} {w : World} {v : Value} {l : List Op} (h : OwnOps base w v l) {W : World} (hg : Gr w W) {p : Addr} (hp : w.heap.size ≤ p.block) (u : Value) : OwnOps base (W.setCell p u) v l := OwnOps.gr h (Gr.setCell hg hp u)
end Ve
