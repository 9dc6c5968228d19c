/- Part of the proof of ToolNumbers by an evaluator that is proved sound: B13. No condition of its own. -/
import Derived.Test.YtbhbbjgaahfinaaGreatDoorB12
set_option linter.unusedVariables false
set_option linter.unusedSimpArgs false
/-! A region in the order of the text; straight code. -/
namespace Gv
open Go
set_option linter.unusedVariables false

section
variable {P : Program} {G : Glob} {T : Tab} {self : IC → St → Option (DX × St)} {C : Cx} {h0 : HS} {r : Option Nat}

theorem plainD_dins {i : Ins} {s s' : St} {x : DX} (hd : dins T self i s = some (x, s')) : plainD s'.dfs = plainD s.dfs := by
  unfold dins at hd
  split at hd
  · split at hd
    · split at hd
      · split at hd
        · simp only [Option.some.injEq, Prod.mk.injEq] at hd
          obtain ⟨_, rfl⟩ := hd; rfl
        · cases hd
      · cases hd
    · split at hd
      · simp only [Option.some.injEq, Prod.mk.injEq] at hd
        obtain ⟨_, rfl⟩ := hd; rfl
      · simp only [Option.some.injEq, Prod.mk.injEq] at hd
        obtain ⟨_, rfl⟩ := hd; rfl
      · cases hd
  · simp only [Option.some.injEq, Prod.mk.injEq] at hd
    obtain ⟨_, rfl⟩ := hd; rfl
  · cases hd

theorem dins_x {i : Ins} {s s' : St} {x : DX} (hd : dins T self i s = some (x, s')) : x = .normal ∨ ∃ d, x = .panic d := by
  unfold dins at hd
  split at hd
  · split at hd
    · split at hd
      · split at hd
        · simp only [Option.some.injEq, Prod.mk.injEq] at hd; exact .inl hd.1.symm
        · cases hd
      · cases hd
    · split at hd
      · simp only [Option.some.injEq, Prod.mk.injEq] at hd; exact .inl hd.1.symm
      · simp only [Option.some.injEq, Prod.mk.injEq] at hd; exact .inr ⟨_, hd.1.symm⟩
      · cases hd
  · simp only [Option.some.injEq, Prod.mk.injEq] at hd; exact .inl hd.1.symm
  · cases hd

theorem dops_sound (hcall : CallOK P G T self) (hround : RoundOK P G self) (hmeth : MethOK P T) (cc : CC P G C) (hg : GOK G C h0) {nt : Nat} {ops : Array Oper} {m : Nat} {Q : Exit → Act → World → Prop} :
    ∀ (l : List Oper) (k : Nat) (is : List Ins), l = ops.toList.drop k → cinss P G nt (dstOf ops) l = some is → ∀ (s s' : St) (x : DX) (h : HS) (a : Act), (plainD s.dfs = true → r = none) → FR C h0 nt s a h →
      dops T self is s = some (x, s') → (∀ a' h', FR C h0 nt s' a' h' → Left C h' x Q a') → wpOpsIn (Fw r) m P ops Q (List.range' k l.length) a h.w
  | [], k, is, hl, hc, s, s', x, h, a, hrd, fr, hd, hk => by
    simp only [cinss, Option.some.injEq] at hc; subst hc
    simp only [dops, Option.some.injEq, Prod.mk.injEq] at hd
    obtain ⟨rfl, rfl⟩ := hd
    exact hk a h fr
  | o :: os, k, is, hl, hc, s, s', x, h, a, hrd, fr, hd, hk => by
    obtain ⟨i, is', h1, h2, hc⟩ := some2 hc
    simp only [Option.some.injEq] at hc; subst hc
    have hok : ops[k]? = some o := by
      rw [← Array.getElem?_toList]
      have : (ops.toList.drop k)[0]? = some o := by rw [← hl]; rfl
      simpa using this
    have hos : os = ops.toList.drop (k + 1) := by
      have : (ops.toList.drop k).tail = os := by rw [← hl]; rfl
      rw [← this]; simp
    simp only [List.length_cons, List.range'_succ, wpOpsIn, hok]
    simp only [dops] at hd
    cases hi : dins T self i s with
    | none => simp [hi] at hd
    | some p =>
      obtain ⟨y, s1⟩ := p
      refine dins_sound hcall hround hmeth cc (hg.ext fr.ext) hrd fr h1 hi ?_
      intro a' h' fr'
      rcases dins_x hi with rfl | ⟨d, rfl⟩
      · simp only [hi] at hd
        exact dops_sound hcall hround hmeth cc hg os (k + 1) is' hos h2 s1 s' x h' a' (by rw [plainD_dins hi]; exact hrd) fr' hd hk
      · simp only [hi, Option.some.injEq, Prod.mk.injEq] at hd
        obtain ⟨rfl, rfl⟩ := hd
        exact hk a' h' fr'
end
end Gv
