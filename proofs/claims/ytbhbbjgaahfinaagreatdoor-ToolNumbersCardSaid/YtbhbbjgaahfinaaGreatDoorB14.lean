/- Part of the proof of ToolNumbers by an evaluator that is proved sound: B14. No condition of its own. -/
import Derived.Test.YtbhbbjgaahfinaaGreatDoorB13
set_option linter.unusedVariables false
set_option linter.unusedSimpArgs false
/-! Code: what is straight, branches, blocks, loops. -/
namespace Gv
open Go
set_option linter.unusedVariables false

section
variable {P : Program} {G : Glob} {T : Tab} {self : IC → St → Option (DX × St)} {r : Option Nat}

def PlainOK (self : IC → St → Option (DX × St)) : Prop := ∀ ic s x s', self ic s = some (x, s') → plainD s'.dfs = plainD s.dfs

theorem plainD_dops : ∀ {is : List Ins} {s s' : St} {x : DX}, dops T self is s = some (x, s') → plainD s'.dfs = plainD s.dfs
  | [], s, s', x, hd => by
    simp only [dops, Option.some.injEq, Prod.mk.injEq] at hd
    obtain ⟨_, rfl⟩ := hd; rfl
  | i :: is, s, s', x, hd => by
    simp only [dops] at hd
    cases hi : dins T self i s with
    | none => simp [hi] at hd
    | some p =>
      obtain ⟨y, s1⟩ := p
      have h1 := plainD_dins hi
      rcases dins_x hi with rfl | ⟨d, rfl⟩
      · simp only [hi] at hd
        rw [plainD_dops hd, h1]
      · simp only [hi, Option.some.injEq, Prod.mk.injEq] at hd
        obtain ⟨_, rfl⟩ := hd; exact h1

theorem stepC_plain (hs : PlainOK self) : PlainOK (stepC T self) := by
  intro ic s x s' hd
  cases ic <;> simp only [stepC] at hd
  case bad => cases hd
  case skip => simp only [Option.some.injEq, Prod.mk.injEq] at hd; obtain ⟨_, rfl⟩ := hd; rfl
  case region ops => exact plainD_dops hd
  case draw ops =>
    split at hd
    · split at hd
      · split at hd
        · simp only [Option.some.injEq, Prod.mk.injEq] at hd; obtain ⟨_, rfl⟩ := hd; rfl
        · cases hd
      · cases hd
    · cases hd
  case seq a b =>
    cases ha : self a s with
    | none => simp [ha] at hd
    | some p =>
      obtain ⟨y, s1⟩ := p
      have h1 := hs _ _ _ _ ha
      rw [ha] at hd
      cases y <;> simp only [Option.some.injEq, Prod.mk.injEq] at hd
      case normal => rw [hs _ _ _ _ hd, h1]
      all_goals (obtain ⟨_, rfl⟩ := hd; exact h1)
  case cond c a b =>
    split at hd
    · exact hs _ _ _ _ hd
    · exact hs _ _ _ _ hd
    · cases hd
  case block id b =>
    cases ha : self b s with
    | none => simp [ha] at hd
    | some p =>
      obtain ⟨y, s1⟩ := p
      have h1 := hs _ _ _ _ ha
      rw [ha] at hd
      cases y <;> simp only [Option.some.injEq, Prod.mk.injEq] at hd
      case exit id' =>
        split at hd <;> (simp only [Option.some.injEq, Prod.mk.injEq] at hd; obtain ⟨_, rfl⟩ := hd; exact h1)
      all_goals (obtain ⟨_, rfl⟩ := hd; exact h1)
  case loop b =>
    cases ha : self b s with
    | none => simp [ha] at hd
    | some p =>
      obtain ⟨y, s1⟩ := p
      have h1 := hs _ _ _ _ ha
      rw [ha] at hd
      cases y <;> simp only [Option.some.injEq, Prod.mk.injEq] at hd
      case normal => rw [hs _ _ _ _ hd, h1]
      all_goals (obtain ⟨_, rfl⟩ := hd; exact h1)
  case rangeF nt f ps assign body =>
    split at hd
    · split at hd
      · split at hd
        · cases hd
        · split at hd
          · split at hd
            · simp only [Option.some.injEq, Prod.mk.injEq] at hd; obtain ⟨_, rfl⟩ := hd; rfl
            · split at hd
              · rw [hs _ _ _ _ hd]; rfl
              · cases hd
            · cases hd
          · cases hd
      · cases hd
    · cases hd
  case exit id => simp only [Option.some.injEq, Prod.mk.injEq] at hd; obtain ⟨_, rfl⟩ := hd; rfl
  case scope l rest b =>
    cases ha : self b s with
    | none => simp [ha] at hd
    | some p =>
      obtain ⟨y, s1⟩ := p
      have h1 := hs _ _ _ _ ha
      rw [ha] at hd
      cases y <;> simp only [Option.some.injEq, Prod.mk.injEq] at hd
      case goto l' =>
        split at hd
        · rw [hs _ _ _ _ hd, h1]
        · cases hd
      all_goals (obtain ⟨_, rfl⟩ := hd; exact h1)
  case label l => simp only [Option.some.injEq, Prod.mk.injEq] at hd; obtain ⟨_, rfl⟩ := hd; rfl
  case goto l => simp only [Option.some.injEq, Prod.mk.injEq] at hd; obtain ⟨_, rfl⟩ := hd; rfl
  case ret => simp only [Option.some.injEq, Prod.mk.injEq] at hd; obtain ⟨_, rfl⟩ := hd; rfl
end
end Gv
