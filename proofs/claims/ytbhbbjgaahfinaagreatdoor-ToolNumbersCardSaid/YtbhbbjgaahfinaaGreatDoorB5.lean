/- Part of the proof of ToolNumbers by an evaluator that is proved sound: B5. No condition of its own. -/
import Derived.Test.YtbhbbjgaahfinaaGreatDoorB4
set_option linter.unusedVariables false
set_option linter.unusedSimpArgs false
/-! An operation that leaves the state as it is. -/
namespace Gv
open Go
set_option linter.unusedVariables false

section
variable {C : Cx} {h : HS} {P : Program} {G : Glob} {E : Tr D} {a : Act}

theorem cbin_cases {t : TypeId} {y : Operand} {op : BinOp} {k : BK} (hk : cbin P t y op = some k) :
    k = .sc ∨ k = .str ∨ (k = .bl ∧ P.underlying t = some .bool) ∨ (k = .nily ∧ ∃ v, y = .const v ∧ NilAt P t v) ∨
    (∃ e n, k = .ptr ∧ P.underlying t = some (.pointer e) ∧ tsize P e = some (n + 1)) ∨
    (∃ ks, k = .deep ks ∧ P.underlying t = some (.struct (P.fieldsOf t)) ∧ P.stoodInHeld t = false ∧ P.eqGuardType P.depth t = false ∧ plainFields P 0 (P.fieldsOf t).toList = some ks) := by
  have eqcase : ∀ (op : BinOp), op = .eql ∨ op = .neq → cbin P t y op = cbin P t y .eql := by
    intro op ho; rcases ho with rfl | rfl <;> rfl
  have oth : ∀ (op : BinOp), op ≠ .eql → op ≠ .neq → cbin P t y op = some k → k = .sc ∨ k = .str := by
    intro op h1 h2 h3
    unfold cbin at h3
    split at h3
    · exact absurd rfl h1
    · exact absurd rfl h2
    · split at h3 <;> simp_all
  by_cases h1 : op = .eql ∨ op = .neq
  · rw [eqcase op h1] at hk
    simp only [cbin] at hk
    split at hk
    · simp_all
    · rename_i hu; simp_all
    · simp_all
    · rename_i fs hu
      right; right; right; right; right
      split at hk
      · cases hk
      · rename_i hc
        split at hk
        · rename_i hl
          simp only [Option.map_eq_some_iff] at hk
          obtain ⟨ks, hk, rfl⟩ := hk
          simp only [Bool.or_eq_true, not_or, Bool.not_eq_true] at hc
          refine ⟨ks, rfl, ?_, hc.1, hc.2, hk⟩
          rw [hu]
          have : P.fieldsOf t = fs := by
            have := hu
            simp [Program.fieldsOf, hu]
          rw [this]
        · cases hk
    · rename_i e hu
      split at hk <;> simp only [reduceCtorEq, Option.some.injEq] at hk
      subst hk; exact .inr (.inr (.inr (.inl ⟨rfl, _, rfl, .slice hu⟩)))
    · rename_i e hu
      split at hk
      · simp only [Option.some.injEq] at hk
        subst hk; exact .inr (.inr (.inr (.inl ⟨rfl, _, rfl, .pointer hu⟩)))
      · split at hk
        · rename_i n hn
          simp only [Option.some.injEq] at hk
          subst hk; exact .inr (.inr (.inr (.inr (.inl ⟨_, n, rfl, hu, hn⟩))))
        · cases hk
    · rename_i e1 e2 hu
      split at hk <;> simp only [reduceCtorEq, Option.some.injEq] at hk
      subst hk; exact .inr (.inr (.inr (.inl ⟨rfl, _, rfl, .map hu⟩)))
    · rename_i hu
      split at hk <;> simp only [reduceCtorEq, Option.some.injEq] at hk
      subst hk; exact .inr (.inr (.inr (.inl ⟨rfl, _, rfl, .func hu⟩)))
    · rename_i e hu
      split at hk <;> simp only [reduceCtorEq, Option.some.injEq] at hk
      subst hk; exact .inr (.inr (.inr (.inl ⟨rfl, _, rfl, .iface hu⟩)))
    · cases hk
  · simp only [not_or] at h1
    rcases oth op h1.1 h1.2 hk with h | h
    · exact .inl h
    · exact .inr (.inl h)
end
end Gv
