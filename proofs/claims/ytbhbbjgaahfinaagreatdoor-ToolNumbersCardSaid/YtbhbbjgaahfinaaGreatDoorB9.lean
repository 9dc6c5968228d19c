/- Part of the proof of ToolNumbers by an evaluator that is proved sound: B9. No condition of its own. -/
import Derived.Test.YtbhbbjgaahfinaaGreatDoorB8
import Derived.Test.YtbhbbjgaahfinaaGreatDoorA6
set_option linter.unusedVariables false
set_option linter.unusedSimpArgs false
/-! Frames; an operation of a region, in a frame. -/
namespace Gv
open Go
set_option linter.unusedVariables false

/-- The wide fence, in a round or not. -/
def Fw (r : Option Nat) : Fence := { Fence.wide with round := r }

/-- What the package variables hold. -/
def GOK (G : Glob) (C : Cx) (h : HS) : Prop := ∀ g cs, G g = some cs → R C h (.ep cs) (.pointer (some ⟨g, 0, none⟩))
theorem GOK.ext {G : Glob} {C : Cx} {h h' : HS} (e : Ext h h') (hg : GOK G C h) : GOK G C h' := fun g cs hh => (hg g cs hh).ext e

/-- Deferred calls. -/
def DR (C : Cx) (h : HS) : List Dfr → List Deferred → Prop
  | [], ds => ds = []
  | .call g args :: rest, ds => ∃ d ds', ds = d :: ds' ∧ (∃ cap, d.target = .fn (.func g) cap ∧ RL C h false args (d.args.toList ++ cap.toList)) ∧ DR C h rest ds'
  | .rnd :: rest, ds => rest = [] ∧ ds = []
  | .mark id :: rest, ds => ∃ b ds', ds = { target := .collected b, args := #[] } :: ds' ∧ id < h.next ∧ (h.own.get id = some .dfr → b = (h.M id).1) ∧ DR C h rest ds'

theorem DR.ext {C : Cx} {h h' : HS} (e : Ext h h') : ∀ {ds : List Dfr} {cs : List Deferred}, DR C h ds cs → DR C h' ds cs
  | [], cs, hr => hr
  | .call g args :: rest, cs, ⟨d, ds', h1, ⟨cap, h2, h3⟩, h4⟩ => ⟨d, ds', h1, ⟨cap, h2, h3.ext e⟩, DR.ext e h4⟩
  | .rnd :: rest, cs, hr => hr
  | .mark id :: rest, cs, ⟨b, ds', h1, h2, h3, h4⟩ => ⟨b, ds', h1, Nat.lt_of_lt_of_le h2 e.next, fun hh => by
      obtain ⟨o, ho, hs⟩ := e.live id _ h2 hh
      cases o <;> simp [Obj.sim] at hs
      rw [e.M id h2]; exact h3 ho, DR.ext e h4⟩

/-- A frame, as the evaluator sees it. -/
structure FR (C : Cx) (h0 : HS) (nt : Nat) (s : St) (a : Act) (h : HS) : Prop where
  own : h.own = s.own
  next : h.next = s.next
  ok : OK C h
  ext : Ext h0 h
  size : a.tmps.size = nt
  env : envR C h s.E a.tmps
  dfs : DR C h s.dfs a.defers

section
variable {C : Cx} {h : HS} {P : Program} {G : Glob} {E : Tr D} {a : Act} {r : Option Nat}

theorem opdOK_of (hg : GOK G C h) (he : envR C h E a.tmps) (x : Operand) : OpdOK C h G E a x := by
  intro y hy d hd
  cases x with
  | tmp t =>
    simp only [copd, Option.some.injEq] at hy; subst hy
    simp only [ev] at hd
    obtain ⟨u, h1, h2⟩ := he t d hd
    have : a.eval (.tmp t) = u := by simp [Act.eval, Array.getD_eq_getD_getElem?, h1]
    rw [this]; exact h2
  | const v =>
    simp only [copd, Option.map_eq_some_iff] at hy
    obtain ⟨d', h1, rfl⟩ := hy
    simp only [ev, Option.some.injEq] at hd; subst hd
    exact ofV_sound h1 C h
  | global g =>
    simp only [copd, Option.map_eq_some_iff] at hy
    obtain ⟨cs, h1, rfl⟩ := hy
    simp only [ev, Option.some.injEq] at hd; subst hd
    exact hg g cs h1
  | func f =>
    simp only [copd, Option.some.injEq] at hy; subst hy
    simp only [ev, Option.some.injEq] at hd; subst hd
    simp only [R]
    exact ⟨#[], #[], rfl, RL.nil, RL.nil⟩

theorem envR_put {dst : Option Nat} {d : D} {v : Value} (he : envR C h E a.tmps) (hlt : ∀ t, dst = some t → t < a.tmps.size) (hr : R C h d v) : envR C h (setDst E dst d) (a.put dst v).tmps := by
  cases dst with
  | none => exact he
  | some t0 =>
    intro t d' ht
    simp only [setDst] at ht
    simp only [Act.put]
    by_cases h1 : t = t0
    · subst h1
      rw [Tr.get_put_eq] at ht; cases ht
      exact ⟨v, by simp [hlt t rfl], hr⟩
    · rw [Tr.get_put_ne _ _ h1] at ht
      obtain ⟨u, h2, h3⟩ := he t d' ht
      exact ⟨u, by rw [Array.getElem?_setIfInBounds_ne (fun hh => h1 hh.symm)]; exact h2, h3⟩

theorem put_size {dst : Option Nat} {v : Value} : (a.put dst v).tmps.size = a.tmps.size := by
  cases dst <;> simp [Act.put]
theorem put_defers {dst : Option Nat} {v : Value} : (a.put dst v).defers = a.defers := by
  cases dst <;> simp [Act.put]

/-- What is asked behind an operation that is done. -/
def Does (P : Program) (r : Option Nat) (o : Oper) (C : Cx) (h : HS) (a : Act) (out : Out) (own' : Tr Obj) (next' : Nat) : Prop :=
  ∀ m (K : Act → World → Prop) (Q : Exit → Act → World → Prop),
    (∀ v h', h'.own = own' → h'.next = next' → Ext h h' → OK C h' →
      (match out with
       | .ok d => R C h' d v → K (a.put o.dst v) h'.w
       | .pan d => R C h' d v → Q (.panic [{ v, recovered := false }]) a h'.w)) → o.wpIn (Fw r) m P a h.w K Q

theorem not_defer {o : Oper} {i : IOp} (hc : cop P G o = some i) (hi : ∀ f, i ≠ .defer f) : ∀ c, o.op ≠ .defer c := by
  intro c ho
  obtain ⟨dst, op, ty, pos, after, guard⟩ := o
  simp only at ho
  subst ho
  obtain ⟨callee, ⟨al⟩, tys⟩ := c
  cases callee <;> cases al <;> simp only [cop, reduceCtorEq, Option.map_eq_some_iff] at hc
  obtain ⟨f, _, rfl⟩ := hc
  exact hi f rfl

theorem Does.of_YN {o : Oper} {d : D} {own' : Tr Obj} {next' : Nat} (hnd : ∀ c, o.op ≠ .defer c) (hy : YN C P h (execOp a.eval o) d own' next') : Does P r o C h a (.ok d) own' next' := by
  intro m K Q hk
  refine ⟨fun _ _ => trivial, ?_⟩
  obtain ⟨v, h', h1, h2, h3, h4, h5, h6⟩ := hy
  rw [show (Fw r).round = r from rfl, Oper.semAt_eq r _ o hnd]
  rcases h1 with h1 | ⟨h1, rfl⟩
  · rw [h1]; exact hk v h' h3 h4 h5 h6 h2
  · rw [h1]; exact hk undef h' h3 h4 h5 h6 h2
end
end Gv
