/- Part of the proof of ToolNumbers by an evaluator that is proved sound: B1. No condition of its own. -/
import Derived.Lib.UnsafeStr
import Derived.Test.YtbhbbjgaahfinaaGreatDoorB0
set_option linter.unusedVariables false
set_option linter.unusedSimpArgs false
/-! Pointers as unsafe ones, and back; bytes seen as a string. -/
namespace Gv
open Go
set_option linter.unusedVariables false

section
variable {C : Cx} {h : HS} {P : Program}

theorem sameLayout_self (d : Nat) (t : TypeId) : sameLayout P (d + 1) t t = true := by
  unfold sameLayout; simp

theorem liesAt_elem {u : TypeId} {size count off n : Nat} (hs : tsize P u = some size) (h0 : 0 < size) (hoff : off % size = 0) (hn : off / size + n ≤ count) : liesAt P P.depth u count off u n = true := by
  have hc : P.cellsOf u = size := by
    simp only [tsize, Option.map_eq_some_iff] at hs
    obtain ⟨i, hi, rfl⟩ := hs
    simp [Program.cellsOf, hi]
  have hd : ∃ d, P.depth = d + 1 := ⟨2 * (P.types.size + Made.depth) + 1, rfl⟩
  obtain ⟨d, hd⟩ := hd
  have hrow : rowAt P (sameLayout P P.depth · u) P.depth u count off n = true := by
    rw [hd]
    unfold rowAt
    simp only [hc, show ¬ size = 0 by omega, if_false]
    have : sameLayout P (d + 1) u u = true := sameLayout_self d u
    simp [hoff, hn, this]
  rw [hd]
  unfold liesAt
  rw [hd] at hrow
  rw [hd, hrow]; rfl

/-- Where an element of an object lies, inside its block. -/
theorem elem_in (ok : OK C h) {id ty size : Nat} {xs : List D} (ho : h.own.get id = some (.arr ty size xs)) (h0 : 0 < size) {i : Nat} (n : Nat) (hi : i + n ≤ xs.length) :
    ∃ c, h.w.heap[(h.M id).1]? = some (.cells c ty (0, 0)) ∧ ((h.M id).2 + i * size) % size = 0 ∧ ((h.M id).2 + i * size) / size + n ≤ c.size / size ∧ (0 < n → (h.M id).2 + i * size < c.size) := by
  obtain ⟨_, _, _, c, h9, pre, cs, rest, h10, h11, h12⟩ := ok.id id _ ho
  have hdvd := ok.dvd _ _ _ _ ho
  have hlen := h12.length
  have hsz : c.size = pre.length + (cs.length + rest.length) := by rw [← Array.length_toList, h10]; simp
  obtain ⟨q, hq⟩ : ∃ q, (h.M id).2 = size * q := ⟨(h.M id).2 / size, by have := Nat.div_add_mod (h.M id).2 size; omega⟩
  have hle : (i + n) * size ≤ xs.length * size := Nat.mul_le_mul_right _ hi
  have e1 : (h.M id).2 + i * size = size * (q + i) := by rw [hq, Nat.mul_add, Nat.mul_comm i size]
  refine ⟨c, h9, by rw [e1]; exact Nat.mul_mod_right _ _, ?_, fun hn => ?_⟩
  · rw [e1, Nat.mul_div_cancel_left _ h0, Nat.le_div_iff_mul_le h0]
    have : (q + i + n) * size = size * q + (i + n) * size := by rw [Nat.add_assoc, Nat.add_mul, Nat.mul_comm q size]
    rw [this, ← hq, ← h11]; omega
  · rw [Nat.add_mul] at hle
    have : 0 < n * size := Nat.mul_pos hn h0
    rw [← h11]; omega

theorem conv_ptr (ok : OK C h) {src dst t : TypeId} {size : Nat} (hs : tsize P t = some (size + 1)) (hu : (P.underlying src = some (.pointer t) ∧ P.underlying dst = some .unsafePointer) ∨ (P.underlying src = some .unsafePointer ∧ P.underlying dst = some (.pointer t)))
    {d r : D} {u : Value} (hr : R C h d u) (hd : dconvP h.own (.ptr t (size + 1)) d = some r) : Pure1 C P h (convert src dst u) r := by
  simp only [dconvP] at hd
  have conv_eq : convert src dst u = Conv.unsafePointer src dst u ∨ True := .inr trivial
  split at hd
  · simp only [Option.some.injEq] at hd; subst hd
    have hr' := hr
    simp only [R] at hr'
    subst hr'
    rcases hu with ⟨h1, h2⟩ | ⟨h1, h2⟩ <;>
      exact ⟨_, by simp [convert, run_underlying h1, run_underlying h2, Conv.unsafePointer], hr⟩
  · rename_i id i
    split at hd
    · rename_i ty' size' xs ho
      split at hd
      · rename_i hc
        obtain ⟨rfl, rfl, hi⟩ := hc
        simp only [Option.some.injEq] at hd; subst hd
        have hr' := hr
        simp only [R] at hr'
        have hu1 := hr'.2.2 _ _ _ ho
        subst hu1
        obtain ⟨c, g1, g2, g3, g4⟩ := elem_in ok ho (by omega) 1 (i := i) (by omega)
        have hsh : h.w.shape? (h.M id).1 = some (ty', c.size) := by simp [World.shape?, g1]
        have hlies := liesAt_elem (P := P) hs (by omega) g2 g3
        have hcell : P.cellsOf ty' = size + 1 := by
          simp only [tsize, Option.map_eq_some_iff] at hs
          obtain ⟨j, hj, hj2⟩ := hs
          simp [Program.cellsOf, hj, hj2]
        have hlt := g4 (by omega)
        have hseen : ∀ off, (Conv.seenAt ⟨(h.M id).1, off, none⟩).run P h.w = .ok ⟨(h.M id).1, off, none⟩ h.w := by
          intro off; simp [Conv.seenAt, viewAt, hsh]
        rcases hu with ⟨h1, h2⟩ | ⟨h1, h2⟩
        · refine ⟨_, ?_, hr⟩
          simp [convert, run_underlying h1, run_underlying h2, Conv.unsafePointer, hseen, cellsIn, hsh, tsize_sound hs]
          intro hh; omega
        · refine ⟨_, ?_, hr⟩
          simp [convert, run_underlying h1, run_underlying h2, Conv.unsafePointer, hseen, tsize_sound hs, variablesAt, hsh, hcell, hlies]
      · cases hd
    · cases hd
  · cases hd
end
end Gv
