/- Part of the proof of ToolNumbers by an evaluator that is proved sound: B0. No condition of its own. -/
import Derived.LaidEql
import Derived.Test.YtbhbbjgaahfinaaGreatDoorA4
set_option linter.unusedVariables false
set_option linter.unusedSimpArgs false
/-! Odd operations: pointers compared and converted; capacities; appends that surely find room; bytes seen as a string. -/
namespace Gv
open Go
set_option linter.unusedVariables false

section
variable {C : Cx} {h : HS} {P : Program}

theorem bin_ptr {op : BinOp} {t e : TypeId} {n : Nat} {x y : Operand} (hu : P.underlying t = some (.pointer e)) (hs : tsize P e = some (n + 1)) {dx dy d : D} {ux uy : Value}
    (hx : R C h dx ux) (hy : R C h dy uy) (hd : dbinP h.own op .ptr dx dy = some d) : Pure1 C P h (do eqGuard op t x y ux uy; binOp op t ux uy) d := by
  simp only [dbinP] at hd
  split at hd
  · rename_i id i o id' i' o'
    split at hd
    · rename_i hc
      obtain ⟨rfl, rfl, rfl⟩ := hc
      obtain ⟨sx, hl, hd⟩ := some1 hd
      obtain ⟨ty, ho⟩ := live_get hl
      simp only [R] at hx hy
      have e1 := hx.2.2 _ _ _ ho
      have e2 := hy.2.2 _ _ _ ho
      subst e1 e2
      have heq : ∀ a : Addr, (Op.equal t (.pointer (some a)) (.pointer (some a))).run P h.w = .ok true h.w := by
        have e0 : ∀ (k : Nat) (a : Addr), (Op.equalIn (k + 1) t (.pointer (some a)) (.pointer (some a))).run P h.w = .ok true h.w := by
          intro k a
          simp [Op.equalIn, run_underlying hu, tsize_sound hs, run_sameAddr_same]
        exact fun a => e0 9999 a
      split at hd
      · simp only [Option.some.injEq] at hd; subst hd
        exact ⟨.bool true, by simp [eqGuard, binOp, heq], by simp [R]⟩
      · simp only [Option.some.injEq] at hd; subst hd
        exact ⟨.bool false, by simp [eqGuard, binOp, heq], by simp [R]⟩
      · cases hd
    · cases hd
  · cases hd

theorem dcap_sound {t ty : TypeId} {e : TypeId} (hu : P.underlying t = some (.slice e)) {x d : D} {u : Value} (ok : OK C h) (hr : R C h x u)
    (hd : (match x with
      | .sl hd xs => if hd == .nil || hd.exact then some (.v (.int .i64 xs.length)) else none
      | .own id _ _ (some c) => b1 (live h.own id) fun _ => some (.v (.int .i64 c))
      | _ => none) = some d) : Yields C P h (Builtin.cap_ #[t] ty #[u]) d h.own h.next := by
  cases x with
  | sl hdr xs =>
    simp only at hd
    split at hd
    · rename_i hc
      simp only [Option.some.injEq] at hd; subst hd
      simp only [R] at hr
      rcases hr with ⟨rfl, rfl, _⟩ | ⟨hne, b, off, cap, size, cs, rfl, h1, h2, _⟩
      · exact Yields.same ok (v := .int .i64 0) (by simp [Builtin.cap_, run_underlying hu, goInt]) (by simp [R])
      · have hex : hdr.exact = true := by
          rcases Bool.or_eq_true_iff.1 hc with hh | hh
          · exact absurd (by simpa using hh) hne
          · exact hh
        have := h2 hex
        subst this
        exact Yields.same ok (v := .int .i64 xs.length) (by simp [Builtin.cap_, run_underlying hu, goInt]) (by simp [R])
    · cases hd
  | own id off n cap =>
    cases cap with
    | none => simp at hd
    | some c =>
      simp only at hd
      obtain ⟨sx, hl, hd⟩ := some1 hd
      simp only [Option.some.injEq] at hd; subst hd
      obtain ⟨tyo, ho⟩ := live_get hl
      simp only [R] at hr
      obtain ⟨c', cs, el, f, rfl, h1, h2, _⟩ := hr.2.2.2 _ _ _ ho
      have := h2 c rfl
      subst this
      exact Yields.same ok (v := .int .i64 c') (by simp [Builtin.cap_, run_underlying hu, goInt]) (by simp [R])
  | _ => simp at hd

theorem dsdata_sound {tys : Array TypeId} {ty : TypeId} {x d : D} {u : Value} (ok : OK C h) (hr : R C h x u)
    (hd : (match x with
      | .sl .nil [] => some (.v (.pointer none))
      | .own id off n _ => (match h.own.get id with | some (.arr _ 1 _) => if 0 < n then some (.ptr id off 0) else none | _ => none)
      | _ => none) = some d) : Yields C P h (Builtin.unsafeSliceData_ tys ty #[u]) d h.own h.next := by
  cases x with
  | sl hdr xs =>
    cases hdr <;> cases xs <;> simp only [reduceCtorEq, Option.some.injEq] at hd
    subst hd
    simp only [R] at hr
    rcases hr with ⟨rfl, _⟩ | ⟨hne, _⟩
    · exact Yields.same ok (v := .pointer none) (by rfl) (by simp [R])
    · exact absurd rfl hne
  | own id off n cap =>
    simp only at hd
    split at hd
    · rename_i tyo xs ho
      split at hd
      · rename_i hn
        simp only [Option.some.injEq] at hd; subst hd
        simp only [R] at hr
        obtain ⟨hid, _, _, hr⟩ := hr
        obtain ⟨c', cs, el, f, rfl, h1, h2, _⟩ := hr _ _ _ ho
        have hc : c' ≠ 0 := by omega
        refine Yields.same ok (v := .pointer (some ⟨(h.M id).1, (h.M id).2 + off * 1, none⟩)) (by show Sem.run P (if c' ≠ 0 then pure (Value.pointer (some ⟨(h.M id).1, (h.M id).2 + off * 1, none⟩)) else _) h.w = _; rw [if_pos hc]; rfl) ?_
        simp only [R]
        refine ⟨hid, rfl, fun t2 s2 x2 ho2 => ?_⟩
        rw [ho] at ho2; cases ho2; rfl
      · cases hd
    · cases hd
  | _ => simp at hd
end
end Gv
