/- Part of the proof of ToolNumbers by an evaluator that is proved sound: B31. No condition of its own. -/
import Derived.Test.YtbhbbjgaahfinaaGreatDoorB30
set_option linter.unusedVariables false
set_option linter.unusedSimpArgs false
/-! Package variables that a row lists. -/
namespace Gv
open Go Go.ChangeShapes
set_option linter.unusedVariables false

/-- The literals of a listed array. -/
def litsOf {H : Type} : List (DataW H) → List Lit
  | .lit l :: r => l :: litsOf r
  | _ :: r => .nil :: litsOf r
  | [] => []
def partsOf {H : Type} : DataW H → List (DataW H)
  | .agg ps => ps
  | _ => []
def shortLit : Lit → Bool
  | .string bs => decide (bs.length ≤ top)
  | _ => true

def gCheck (P : Program) (n : String) (g : Nat) : Bool :=
  match P.globalNamed n with
  | some g' => g' == g && (match (P.globals[g]?).map (·.type) with
    | some t => (match P.underlying t with
      | some (.array m e) => (match P.underlying e with | some (.int _) => true | some .string => true | _ => false) && P.cellsOf e == 1 && P.cellsOf t == m
      | _ => false)
    | none => false)
  | none => false

theorem start_gc {P : Program} {G : Glob} {W : World} {n : String} {g : Nat} {ls : List Lit} (hc : gCheck P n g = true) (hs : ls.all shortLit = true) (h : Lib.VarReads P W n (.agg (ls.map .lit))) :
    R (Cs P G) (start W) (.ep (ls.map litD)) (.pointer (some ⟨g, 0, none⟩)) := by
  unfold gCheck at hc
  cases hg : P.globalNamed n with
  | none => rw [hg] at hc; cases hc
  | some g' =>
    rw [hg] at hc
    simp only [Bool.and_eq_true, beq_iff_eq] at hc
    obtain ⟨rfl, hc⟩ := hc
    cases ht : (P.globals[g']?).map (·.type) with
    | none => rw [ht] at hc; cases hc
    | some t =>
      rw [ht] at hc
      simp only at hc
      split at hc
      · rename_i m e hu
        simp only [Bool.and_eq_true, beq_iff_eq] at hc
        obtain ⟨⟨h1, h2⟩, h3⟩ := hc
        refine start_g hg ht hu ?_ h2 h3 (fun l hl bs e => ?_) h
        · split at h1
          · rename_i k hk; exact .inl ⟨k, hk⟩
          · rename_i hk; exact .inr hk
          · cases h1
        · have := List.all_eq_true.1 hs l hl
          subst e
          simpa [shortLit] using this
      · cases hc

/-- The table of codes, one put behind the other. -/
theorem tab_nil {P : Program} {G : Glob} : ∀ f fi, (Tr.nil : Tr FI).get f = some fi → cfunc P G f = some fi := fun f fi h => by simp at h
theorem tab_put {P : Program} {G : Glob} {t : Tr FI} {i : Nat} {c : FI} (h : ∀ f fi, t.get f = some fi → cfunc P G f = some fi) (hc : cfunc P G i = some c) : ∀ f fi, (t.put i (some c)).get f = some fi → cfunc P G f = some fi := fun f fi hf => by
  rw [Tr.get_put] at hf
  split at hf
  · rename_i e; subst e; rw [← hf]; exact hc
  · exact h f fi hf

/-- Where a byte stands. -/
theorem idx_byte : ∀ (l : List UInt8) (c : Nat), c < 256 → Lib.indexByte l c.toUInt8 = (match (l.map UInt8.toNat).idxOf? c with | some i => (i : Int) | none => -1)
  | [], c, _ => by simp [Lib.indexByte]
  | b :: l, c, hc => by
    have ih := idx_byte l c hc
    unfold Lib.indexByte
    have e : (b == c.toUInt8) = (b.toNat == c) := by
      rw [Bool.eq_iff_iff, beq_iff_eq, beq_iff_eq]
      constructor
      · intro h; rw [h]; simp [Nat.toUInt8, UInt8.toNat_ofNat']; omega
      · intro h; rw [← h]; simp [Nat.toUInt8]
    rw [ih, e, List.map_cons, List.idxOf?_cons]
    by_cases hb : (b.toNat == c) = true
    · simp [hb]
    · have hb' : (b.toNat == c) = false := by simpa using hb
      simp only [hb', Bool.false_eq_true, if_false]
      cases hx : (l.map UInt8.toNat).idxOf? c with
      | none => rfl
      | some i =>
        simp only [Option.map_some]
        have : (((i : Int)) == -1) = false := by rw [beq_eq_false_iff_ne]; omega
        rw [this]; simp
end Gv
