/- A short word for what stands in most walks: a world has grown out of another one. -/
import Derived.Test.YtnlpmajiccliiaaGreatDoorK1
set_option linter.all false
namespace Ve
open Go Go.RowKit

theorem grOf {w w' : World} (h : Gr w w' := by repeat (with_reducible first | assumption | exact Gr.refl _ | apply Gr.alloc | apply Gr.drewN | apply Gr.drew | apply Gr.iter | (refine Gr.setCell ?_ (by simp) _) | (refine Gr.trans ?_ (by assumption)))) : Gr w w' := h
end Ve
