/- Part of the proof of ToolNumbers by an evaluator that is proved sound: T1. No condition of its own. -/
import Derived.KernelRfl
import Derived.Test.YtbhbbjgaahfinaaGreatDoorT0
set_option linter.unusedVariables false
set_option linter.unusedSimpArgs false
/-! law24.shown comes to true, from any first object on: the kernel runs the evaluator. -/
namespace Gv
open Go
set_option maxRecDepth 1000000 in
theorem shown24at (X : Option Obj) : isTrue (dcall T24 (fcode T24 100000) 7 [] (Tr.put .nil 0 X) 1) = true := by kernel_rfl
end Gv
