/- Part of the proof of ToolNumbers by an evaluator that is proved sound: T0. No condition of its own. -/
import Derived.Test.YtbhbbjgaahfinaaGreatDoorA5
import Derived.Test.YtbhbbjgaahfinaaGreatDoorC1
set_option linter.unusedVariables false
set_option linter.unusedSimpArgs false
namespace Gv
open Go
set_option maxRecDepth 100000
def strs (l : List (List Nat)) : List D := l.map .str
def prims24 : Nat → Option Prim := fun f => cond (Nat.beq f 80) (some .indexByte) (cond (Nat.beq f 38) (some .same) none)
def meth24 : TypeId → String → Option Nat := fun t name => cond (Nat.beq t 207) (cond (decide (name = "scrutiny/store.insert")) (some 247) (cond (decide (name = "scrutiny/store.begin")) (some 245) none)) none
def T24 : Tab := ⟨prims24, fun f => codes.get f, meth24, fun t => Nat.beq t 153⟩
def isTrue : Ans → Bool | some (.ok (.v (.bool true)), _, _) => true | _ => false
end Gv
