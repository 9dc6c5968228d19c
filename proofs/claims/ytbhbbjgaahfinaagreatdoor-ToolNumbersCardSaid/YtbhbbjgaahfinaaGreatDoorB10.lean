/- Part of the proof of ToolNumbers by an evaluator that is proved sound: B10. No condition of its own. -/
import Derived.Test.YtbhbbjgaahfinaaGreatDoorB9
set_option linter.unusedVariables false
set_option linter.unusedSimpArgs false
/-! What an operation was, by what it was compiled to. -/
namespace Gv
open Go
set_option linter.unusedVariables false
section
variable {P : Program} {G : Glob}

/-- The operations that call. -/
def isCallOp : IOp → Bool
  | .call .. | .callv .. | .inv .. | .panic _ | .defer _ | .recover => true
  | _ => false

theorem cop_calls {o : Oper} {i : IOp} (hc : cop P G o = some i) (hi : isCallOp i = true) :
    (∃ f as tys args, o.op = .call ⟨.value (.func f), as, tys⟩ ∧ copds G as.toList = some args ∧ i = .call f args) ∨
    (∃ f as tys f' args, o.op = .call ⟨.value f, as, tys⟩ ∧ copd G f = some f' ∧ copds G as.toList = some args ∧ i = .callv f' args) ∨
    (∃ r m as tys r' args, o.op = .call ⟨.invoke r m, as, tys⟩ ∧ copd G r = some r' ∧ copds G as.toList = some args ∧ i = .inv r' m args) ∨
    (∃ x x', o.op = .panic x ∧ copd G x = some x' ∧ i = .panic x') ∨
    (∃ f tys f', o.op = .defer ⟨.value f, #[], tys⟩ ∧ copd G f = some f' ∧ i = .defer f') ∨
    (∃ tys, o.op = .call ⟨.builtin .recover, #[], tys⟩ ∧ i = .recover) := by
  obtain ⟨dst, op, ty, pos, after, guard⟩ := o
  unfold cop at hc
  split at hc
  all_goals first
    | (exfalso; simp only [Option.map_eq_some_iff] at hc; obtain ⟨_, _, rfl⟩ := hc; simp [isCallOp] at hi; done)
    | (exfalso; simp only [Option.some.injEq] at hc; subst hc; simp [isCallOp] at hi; done)
    | (exfalso; (obtain ⟨_, _, hc⟩ := some1 hc); (obtain ⟨_, _, hc⟩ := some1 hc); (obtain ⟨_, _, hc⟩ := some1 hc); simp only [Option.some.injEq] at hc; subst hc; simp [isCallOp] at hi; done)
    | (exfalso; obtain ⟨_, _, _, _, hc⟩ := some2 hc; simp only [Option.some.injEq] at hc; subst hc; simp [isCallOp] at hi; done)
    | (exfalso; cases hc; done)
    | skip
  all_goals first
    | (exfalso; (repeat' split at hc) <;> first
        | (cases hc; done)
        | (simp only [Option.some.injEq] at hc; subst hc; simp [isCallOp] at hi; done)
        | (simp only [Option.map_eq_some_iff] at hc; obtain ⟨_, _, rfl⟩ := hc; simp [isCallOp] at hi; done)
        | (obtain ⟨_, _, hc⟩ := some1 hc; simp only [Option.map_eq_some_iff] at hc; obtain ⟨_, _, rfl⟩ := hc; simp [isCallOp] at hi; done)
        | (obtain ⟨_, _, _, _, hc⟩ := some2 hc; simp only [Option.some.injEq] at hc; subst hc; simp [isCallOp] at hi; done))
    | skip
  · simp only [Option.some.injEq] at hc
    exact .inr (.inr (.inr (.inr (.inr ⟨_, by assumption, hc.symm⟩))))
  · simp only [Option.map_eq_some_iff] at hc
    obtain ⟨x', h1, rfl⟩ := hc
    exact .inr (.inr (.inr (.inl ⟨_, _, by assumption, h1, rfl⟩)))
  · simp only [Option.map_eq_some_iff] at hc
    obtain ⟨x', h1, rfl⟩ := hc
    exact .inr (.inr (.inr (.inr (.inl ⟨_, _, _, by assumption, h1, rfl⟩))))
  · simp only [Option.map_eq_some_iff] at hc
    obtain ⟨x', h1, rfl⟩ := hc
    exact .inl ⟨_, _, _, _, by assumption, h1, rfl⟩
  · obtain ⟨f', as', h1, h2, hc⟩ := some2 hc
    simp only [Option.some.injEq] at hc
    exact .inr (.inl ⟨_, _, _, _, _, by assumption, h1, h2, hc.symm⟩)
  · obtain ⟨f', as', h1, h2, hc⟩ := some2 hc
    simp only [Option.some.injEq] at hc
    exact .inr (.inr (.inl ⟨_, _, _, _, _, _, by assumption, h1, h2, hc.symm⟩))
end
end Gv
