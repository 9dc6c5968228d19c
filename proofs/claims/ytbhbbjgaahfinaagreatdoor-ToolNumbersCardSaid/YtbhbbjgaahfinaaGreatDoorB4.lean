/- Part of the proof of ToolNumbers by an evaluator that is proved sound: B4. No condition of its own. -/
import Derived.Test.YtbhbbjgaahfinaaGreatDoorB3
set_option linter.unusedVariables false
set_option linter.unusedSimpArgs false
/-! What an operation does is what was said: operands; lists of operands. -/
namespace Gv
open Go
set_option linter.unusedVariables false

section
variable {C : Cx} {h : HS} {P : Program} {G : Glob} {E : Tr D} {a : Act}

def OpdOK (C : Cx) (h : HS) (G : Glob) (E : Tr D) (a : Act) (x : Operand) : Prop := ∀ y, copd G x = some y → ∀ d, ev E y = some d → R C h d (a.eval x)

theorem opds_sound : ∀ {xs : List Operand} {ys : List Opd} {ds : List D}, copds G xs = some ys → evs E ys = some ds → (∀ x ∈ xs, OpdOK C h G E a x) → RL C h false ds (xs.map a.eval)
  | [], ys, ds, hc, he, ho => by
    simp only [copds, Option.some.injEq] at hc; subst hc
    simp only [evs, Option.some.injEq] at he; subst he
    exact RL.nil
  | x :: xs, ys, ds, hc, he, ho => by
    simp only [copds] at hc
    cases h1 : copd G x with
    | none => simp [h1] at hc
    | some y =>
    cases h2 : copds G xs with
    | none => simp [h1, h2] at hc
    | some ys' =>
    simp only [h1, h2, Option.some.injEq] at hc; subst hc
    simp only [evs, b2] at he
    cases h3 : ev E y with
    | none => simp [h3] at he
    | some d =>
    cases h4 : evs E ys' with
    | none => simp [h3, h4] at he
    | some ds' =>
    simp only [h3, h4, Option.some.injEq] at he; subst he
    exact RL.cons (by simp) (ho x (by simp) y h1 d h3) (opds_sound h2 h4 (fun x hx => ho x (by simp [hx])))

theorem opdo_sound {x : Option Operand} {y : Option Opd} {d : Option D} (hc : copdo G x = some y) (he : evo E y = some d) (ho : ∀ z, x = some z → OpdOK C h G E a z) : RO C h d (x.map a.eval) := by
  cases x with
  | none =>
    simp only [copdo, Option.some.injEq] at hc; subst hc
    simp only [evo, Option.some.injEq] at he; subst he
    trivial
  | some x =>
    simp only [copdo, Option.map_eq_some_iff] at hc
    obtain ⟨y', h1, rfl⟩ := hc
    simp only [evo, Option.map_eq_some_iff] at he
    obtain ⟨d', h2, rfl⟩ := he
    exact ho x rfl _ h1 _ h2

theorem partsS_sound : ∀ {ps : List (Nat × Operand)} {ys : List (Nat × Opd)} {qs : List (Nat × D)}, cpartsS G ps = some ys → evq E ys = some qs → (∀ p ∈ ps, OpdOK C h G E a p.2) →
    (ps.map fun p => (p.1, a.eval p.2)).length = qs.length ∧ ∀ k (hk : k < (ps.map fun p => (p.1, a.eval p.2)).length) (hk' : k < qs.length), (ps.map fun p => (p.1, a.eval p.2))[k].1 = qs[k].1 ∧ R C h qs[k].2 (ps.map fun p => (p.1, a.eval p.2))[k].2
  | [], ys, qs, hc, he, ho => by
    simp only [cpartsS, Option.some.injEq] at hc; subst hc
    simp only [evq, Option.some.injEq] at he; subst he
    simp
  | (i, x) :: ps, ys, qs, hc, he, ho => by
    simp only [cpartsS] at hc
    cases h1 : copd G x with
    | none => simp [h1] at hc
    | some y =>
    cases h2 : cpartsS G ps with
    | none => simp [h1, h2] at hc
    | some ys' =>
    simp only [h1, h2, Option.some.injEq] at hc; subst hc
    simp only [evq, b2] at he
    cases h3 : ev E y with
    | none => simp [h3] at he
    | some d =>
    cases h4 : evq E ys' with
    | none => simp [h3, h4] at he
    | some ds' =>
    simp only [h3, h4, Option.some.injEq] at he; subst he
    obtain ⟨g1, g2⟩ := partsS_sound h2 h4 (fun p hp => ho p (by simp [hp]))
    refine ⟨by simpa using g1, ?_⟩
    intro k hk hk'
    cases k with
    | zero => exact ⟨rfl, ho (i, x) (by simp) y h1 d h3⟩
    | succ k => exact g2 k (Nat.lt_of_succ_lt_succ hk) (Nat.lt_of_succ_lt_succ hk')

theorem partsA_sound {size : Nat} : ∀ {ps : List (Nat × Operand)} {ys : List (Nat × Nat × Opd)} {qs : List (Nat × Nat × D)}, cpartsA G size ps = some ys → evp E ys = some qs → (∀ p ∈ ps, OpdOK C h G E a p.2) →
    (ps.map fun p => (p.1, a.eval p.2)).length = qs.length ∧ ∀ k (hk : k < (ps.map fun p => (p.1, a.eval p.2)).length) (hk' : k < qs.length), some ((ps.map fun p => (p.1, a.eval p.2))[k].1 * size, size) = some (qs[k].1, qs[k].2.1) ∧ R C h qs[k].2.2 (ps.map fun p => (p.1, a.eval p.2))[k].2
  | [], ys, qs, hc, he, ho => by
    simp only [cpartsA, Option.some.injEq] at hc; subst hc
    simp only [evp, Option.some.injEq] at he; subst he
    simp
  | (i, x) :: ps, ys, qs, hc, he, ho => by
    simp only [cpartsA] at hc
    cases h1 : copd G x with
    | none => simp [h1] at hc
    | some y =>
    cases h2 : cpartsA G size ps with
    | none => simp [h1, h2] at hc
    | some ys' =>
    simp only [h1, h2, Option.some.injEq] at hc; subst hc
    simp only [evp, b2] at he
    cases h3 : ev E y with
    | none => simp [h3] at he
    | some d =>
    cases h4 : evp E ys' with
    | none => simp [h3, h4] at he
    | some ds' =>
    simp only [h3, h4, Option.some.injEq] at he; subst he
    obtain ⟨g1, g2⟩ := partsA_sound h2 h4 (fun p hp => ho p (by simp [hp]))
    refine ⟨by simpa using g1, ?_⟩
    intro k hk hk'
    cases k with
    | zero => exact ⟨rfl, ho (i, x) (by simp) y h1 d h3⟩
    | succ k => exact g2 k (Nat.lt_of_succ_lt_succ hk) (Nat.lt_of_succ_lt_succ hk')

theorem parts_sound {fields : Array Field} {places : Array (Nat × Nat)} (hpl : ∀ (i : Nat) f n, fields[i]? = some f → tsize P f.type = some n → places[i]? = some (f.offset, n)) :
    ∀ {ps : List (Nat × Operand)} {ys : List (Nat × Nat × Opd)} {qs : List (Nat × Nat × D)}, cparts P G fields ps = some ys → evp E ys = some qs → (∀ p ∈ ps, OpdOK C h G E a p.2) →
    (ps.map fun p => (p.1, a.eval p.2)).length = qs.length ∧ ∀ k (hk : k < (ps.map fun p => (p.1, a.eval p.2)).length) (hk' : k < qs.length), places[(ps.map fun p => (p.1, a.eval p.2))[k].1]? = some (qs[k].1, qs[k].2.1) ∧ R C h qs[k].2.2 (ps.map fun p => (p.1, a.eval p.2))[k].2
  | [], ys, qs, hc, he, ho => by
    simp only [cparts, Option.some.injEq] at hc; subst hc
    simp only [evp, Option.some.injEq] at he; subst he
    simp
  | (i, x) :: ps, ys, qs, hc, he, ho => by
    simp only [cparts] at hc
    cases h0 : fields[i]? with
    | none => simp [h0] at hc
    | some f =>
    cases h1 : copd G x with
    | none => simp [h0, h1] at hc
    | some y =>
    cases h2 : cparts P G fields ps with
    | none => simp [h0, h1, h2] at hc
    | some ys' =>
    simp only [h0, h1, h2, Option.map_eq_some_iff] at hc
    obtain ⟨n, hn, rfl⟩ := hc
    simp only [evp, b2] at he
    cases h3 : ev E y with
    | none => simp [h3] at he
    | some d =>
    cases h4 : evp E ys' with
    | none => simp [h3, h4] at he
    | some ds' =>
    simp only [h3, h4, Option.some.injEq] at he; subst he
    obtain ⟨g1, g2⟩ := parts_sound hpl h2 h4 (fun p hp => ho p (by simp [hp]))
    refine ⟨by simpa using g1, ?_⟩
    intro k hk hk'
    cases k with
    | zero => exact ⟨hpl i f n h0 hn, ho (i, x) (by simp) y h1 d h3⟩
    | succ k => exact g2 k (Nat.lt_of_succ_lt_succ hk) (Nat.lt_of_succ_lt_succ hk')

theorem mapM_sizes : ∀ (fs : List Field), (∀ f ∈ fs, (tsize P f.type).isSome = true) → ∃ out : List (Nat × Nat), (∀ w, (fs.mapM fun f => do pure (f.offset, ← Go.sizeOf f.type) : Sem (List (Nat × Nat))).run P w = Result.ok out w) ∧
    ∀ (i : Nat) f n, fs[i]? = some f → tsize P f.type = some n → out[i]? = some (f.offset, n)
  | [], _ => ⟨[], fun w => by simp, by simp⟩
  | f :: fs, hs => by
    obtain ⟨out, h1, h2⟩ := mapM_sizes fs (fun g hg => hs g (by simp [hg]))
    obtain ⟨n, hn⟩ := Option.isSome_iff_exists.1 (hs f (by simp))
    refine ⟨(f.offset, n) :: out, fun w => ?_, ?_⟩
    · simp only [List.mapM_cons, Sem.run_bind, tsize_sound hn, Result.andThen_ok, Sem.run_pure, h1]
    · intro i g m hg hm
      cases i with
      | zero =>
        simp only [List.getElem?_cons_zero, Option.some.injEq] at hg; subst hg
        rw [hn] at hm; cases hm; rfl
      | succ i => simpa using h2 i g m (by simpa using hg) hm

theorem mapM_places {fields : Array Field} (hs : fieldSizes P fields = true) : ∃ places : Array (Nat × Nat), (∀ w, (fields.mapM fun f => do pure (f.offset, ← Go.sizeOf f.type) : Sem (Array (Nat × Nat))).run P w = Result.ok places w) ∧
    ∀ (i : Nat) f n, fields[i]? = some f → tsize P f.type = some n → places[i]? = some (f.offset, n) := by
  obtain ⟨out, h1, h2⟩ := mapM_sizes (P := P) fields.toList (fun f hf => by
    simp only [fieldSizes, Array.all_eq_true] at hs
    obtain ⟨i, hi, rfl⟩ := List.getElem_of_mem hf
    simpa using hs i (by simpa using hi))
  refine ⟨out.toArray, fun w => ?_, fun i f n hf hn => by simpa using h2 i f n (by simpa using hf) hn⟩
  rw [Array.mapM_eq_mapM_toList]
  simp only [map_eq_pure_bind, Sem.run_bind, h1, Result.andThen_ok, Sem.run_pure]

/-! ### Answers -/
def YN (C : Cx) (P : Program) (h : HS) (s : Sem Next) (d : D) (own' : Tr Obj) (next' : Nat) : Prop :=
  ∃ v h', (s.run P h.w = .ok (.value v) h'.w ∨ (s.run P h.w = .ok .skip h'.w ∧ v = undef)) ∧ R C h' d v ∧ h'.own = own' ∧ h'.next = next' ∧ Ext h h' ∧ OK C h'

theorem YN.of_yields {s : Sem Value} {d : D} {own' : Tr Obj} {next' : Nat} (hy : Yields C P h s d own' next') : YN C P h (do pure (.value (← s))) d own' next' := by
  obtain ⟨v, h', h1, h2, h3, h4, h5, h6⟩ := hy
  exact ⟨v, h', .inl (by simp [h1]), h2, h3, h4, h5, h6⟩
theorem YN.of_pure1 (ok : OK C h) {s : Sem Value} {d : D} (hy : Pure1 C P h s d) : YN C P h (do pure (.value (← s))) d h.own h.next := by
  obtain ⟨v, h1, h2⟩ := hy
  exact .of_yields (Yields.same ok h1 h2)
theorem YN.of_val (ok : OK C h) {u : Value} {d : D} (hr : R C h d u) : YN C P h (pure (.value u)) d h.own h.next :=
  ⟨u, h, .inl (by simp), hr, rfl, rfl, Ext.refl h, ok⟩
theorem YN.of_unit {s : Sem Unit} {own' : Tr Obj} {next' : Nat} (hy : ∃ h' : HS, s.run P h.w = .ok () h'.w ∧ h'.own = own' ∧ h'.next = next' ∧ Ext h h' ∧ OK C h') : YN C P h (do s; pure .skip) .junk own' next' := by
  obtain ⟨h', h1, h2, h3, h4, h5⟩ := hy
  exact ⟨undef, h', .inr ⟨by simp [h1], rfl⟩, by simp [R], h2, h3, h4, h5⟩
end
end Gv
