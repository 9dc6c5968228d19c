/- Part of the proof of ToolNumbers by an evaluator that is proved sound: Q0. No condition of its own. -/
import Derived.Test.YtbhbbjgaahfinaaGreatDoorCards
import Derived.JoinedCond
import Derived.KernelRfl
set_option linter.unusedVariables false
set_option linter.unusedSimpArgs false
/-! The row's closed facts, one by one. -/
namespace Go.Proofs.YtbhbbjgaahfinaaGreatDoor
set_option maxRecDepth 100000
theorem j1 : laidOutB Tryz.prog = true := by kernel_rfl
theorem j2 : mapsRowed Tryz.prog = true := by kernel_rfl
theorem j10 : Tryz.prog.inPlace 4 = Rows.toolNumbersRow.inPlace := by kernel_rfl
theorem j11 : Tryz.prog.unfollowed 4 = true := by kernel_rfl
theorem j12 : Tryz.prog.recurses 4 = true := by kernel_rfl
theorem j13 : Tryz.prog.varsNamed 4 = Rows.toolNumbersRow.named := by kernel_rfl
theorem closedN : joinedFacts Tryz.prog 4 Tryz.f4 (OpenSpec.ofChange Rows.toolNumbersSpec).bare Rows.toolNumbersRow = true := by
  unfold joinedFacts
  rw [j1, j2, j10, j11, j12, j13]
  kernel_rfl
end Go.Proofs.YtbhbbjgaahfinaaGreatDoor
