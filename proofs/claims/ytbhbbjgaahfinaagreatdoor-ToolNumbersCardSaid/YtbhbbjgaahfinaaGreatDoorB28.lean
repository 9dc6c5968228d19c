/- Part of the proof of ToolNumbers by an evaluator that is proved sound: B28. No condition of its own. -/
import Derived.Test.YtbhbbjgaahfinaaGreatDoorB27
set_option linter.unusedVariables false
set_option linter.unusedSimpArgs false
/-! One rule for an operation that makes no call; the simp set's facts in one. -/
namespace Gv
open Go
set_option linter.unusedVariables false
section
variable {T : Tab} {Q : DX → St → Prop} {cs : List IC} {is : List Ins} {E : Tr D} {own own' : Tr Obj} {next next' : Nat} {dfs : List Dfr} {op : IOp} {d : D} {gd : Option (Nat × Bool)} {dst : Option Nat}
theorem wg (hg : dguard E gd = some true) (hd : dplain own next E op = some (d, own', next')) (h : Ws T (.region is :: cs) ⟨setDst E dst d, own', next', dfs⟩ Q) : Ws T (.region (⟨dst, op, gd⟩ :: is) :: cs) ⟨E, own, next, dfs⟩ Q :=
  wr_1 (by simp only [plain1, hg, hd]) h
theorem wh (hg : dguard E gd = some false) (h : Ws T (.region is :: cs) ⟨setDst E dst (.tup []), own, next, dfs⟩ Q) : Ws T (.region (⟨dst, op, gd⟩ :: is) :: cs) ⟨E, own, next, dfs⟩ Q :=
  wr_1 (by simp only [plain1, hg]) h
end
theorem SL : (∀ (α : Type) (a : α) (l : List α), (a :: l).isEmpty = false) ∧ (∀ α : Type, ([] : List α).isEmpty = true) ∧ (∀ (α : Type) (a b : List α), (a ++ b).length = a.length + b.length) ∧ (∀ (α : Type) (a : α) (l m : List α), a :: l ++ m = a :: (l ++ m)) ∧
    (∀ (α : Type) (l : List α), [] ++ l = l) ∧ (∀ (α : Type) (l : List α), l ++ [] = l) ∧ (∀ (α β : Type) (f : α → β) (a : α) (l : List α), (a :: l).map f = f a :: l.map f) ∧ (∀ (α β : Type) (f : α → β), ([] : List α).map f = []) ∧
    (∀ (α β : Type) (f : α → β) (l : List α), (l.map f).length = l.length) ∧ (∀ (α : Type) (l : List α) (i : Nat) (a : α), (l.set i a).length = l.length) ∧ (∀ (α : Type) (a b : α) (l : List α), (a :: l).set 0 b = b :: l) ∧
    (∀ (α : Type) (a b : α) (l : List α) (n : Nat), (a :: l).set (n + 1) b = a :: l.set n b) ∧ (∀ (α β : Type) (f : α → β) (a : α), (some a).map f = some (f a)) ∧ (∀ (α β : Type) (f : α → β), (none : Option α).map f = none) ∧
    (∀ (α : Type) (a : α) (l : List α), (a :: l)[0]? = some a) ∧ (∀ (α : Type) (a : α) (l : List α) (n : Nat), (a :: l)[n + 1]? = l[n]?) ∧ (∀ (α : Type) (l : List α), l.drop 0 = l) ∧ (∀ (α : Type) (a : α) (l : List α) (n : Nat), (a :: l).drop (n + 1) = l.drop n) ∧
    (∀ (α : Type) (a : α) (l : List α), (a :: l).head? = some a) ∧ (∀ (α : Type) (a : α) (l : List α) (n : Nat), (a :: l).take (n + 1) = a :: l.take n) ∧ (∀ (α : Type) (l : List α), l.take 0 = []) ∧ (∀ (α : Type) (a : α) (l : List α), (a :: l).length = l.length + 1) ∧
    (∀ α : Type, ([] : List α).length = 0) ∧ (∀ h : Decidable True, decide True = true) ∧ (∀ h : Decidable False, decide False = false) ∧ ((false = true) = False) ∧ ((!true) = false) ∧ ((!false) = true) ∧ (∀ (b : Bool), (b == b) = true) ∧ (∀ n : Nat, (n == n) = true) ∧ (∀ n : Int, (n == n) = true) ∧
    ((¬ False) = True) ∧ ((¬ True) = False) ∧ (∀ b : Bool, (b && b) = b) ∧ (∀ b : Bool, (b && true) = b) ∧ (∀ b : Bool, (true && b) = b) ∧ (∀ (α : Type) (a : α), List.replicate 0 a = []) ∧ (∀ (α : Type) (a : α), List.replicate 1 a = [a]) ∧
    (∀ n : Nat, ((n : Int)).toNat = n) ∧ ((0 : Int).toNat = 0) ∧ (∀ p : Prop, (p ∧ p) = p) ∧ (∀ p : Prop, (p ∧ True) = p) ∧ (∀ p : Prop, (True ∧ p) = p) := by
  simp
end Gv
