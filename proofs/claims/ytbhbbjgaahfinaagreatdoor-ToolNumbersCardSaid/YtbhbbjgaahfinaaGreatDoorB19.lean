/- Part of the proof of ToolNumbers by an evaluator that is proved sound: B19. No condition of its own. -/
import Derived.OrdersIn
import Derived.Test.YtbhbbjgaahfinaaGreatDoorB18
set_option linter.unusedVariables false
set_option linter.unusedSimpArgs false
/-! Regions that draw their order: what an order may do, and that it comes to the same. -/
namespace Gv
open Go
set_option linter.unusedVariables false

/-! ### A block that nobody may look at -/
def Cx.hide (C : Cx) (b : Nat) : Cx := { X := fun k => C.X k ∨ k = b, cr := C.cr }
def Cx.hid (C : Cx) : Option Nat → Cx
  | none => C
  | some b => C.hide b

section
variable {C : Cx} {h h0 : HS}

theorem CC.hid {P : Program} {G : Glob} (cc : CC P G C) (o : Option Nat) : CC P G (C.hid o) := by
  cases o <;> exact cc

theorem Grow.hide (ok : OK C h) (o : Go.Obj) : Grow C h (C.hide h.w.heap.size) (h.push o) where
  stable := fun b s => ⟨⟨by have := s.1; simp [HS.push]; omega, s.2.1, fun hx => by
    rcases hx with hx | hx
    · exact s.2.2 hx
    · have := s.1; omega⟩, push_old s.1⟩
  next := Nat.le_refl _
  M := fun _ _ => rfl
  live := fun i o' _ ho => ⟨o', ho, o'.sim_refl⟩
  cells := fun b c e f hb => ⟨c, f, by rw [push_old (lt_of_heap hb)]; exact hb, rfl⟩

theorem OK.hide (ok : OK C h) (o : Go.Obj) : OK (C.hide h.w.heap.size) (h.push o) where
  id := fun i o' ho => by
    obtain ⟨h1, h2, h3, h4⟩ := ok.id i o' ho
    refine ⟨h1, by simp [HS.push]; omega, ?_, OR.mono (Grow.hide ok o) rfl rfl (push_old h2) h4⟩
    rintro (hx | hx)
    · exact h3 hx
    · change (h.M i).1 = _ at hx; omega
  inj := ok.inj
  X := fun b hb => by
    rcases hb with hb | hb
    · have := ok.X b hb; simp [HS.push]; omega
    · subst hb; simp [HS.push]
  dvd := ok.dvd

/-- A block becomes an object's. -/
def HS.adopt (h : HS) (vb : Nat) (g : Go.Obj) (o : Obj) : HS :=
  { own := h.own.put h.next (some o), next := h.next + 1, M := upd h.M h.next (vb, 0), w := { h.w with heap := h.w.heap.setIfInBounds vb g } }

theorem adopt_other {vb b : Nat} {g : Go.Obj} {o : Obj} (hb : b ≠ vb) : (h.adopt vb g o).w.heap[b]? = h.w.heap[b]? := by
  simp only [HS.adopt]
  rw [Array.getElem?_setIfInBounds_ne (by omega)]
theorem adopt_self {vb : Nat} {g : Go.Obj} {o : Obj} (hb : vb < h.w.heap.size) : (h.adopt vb g o).w.heap[vb]? = some g := by
  simp [HS.adopt, hb]
theorem adopt_M_new {vb : Nat} {g : Go.Obj} {o : Obj} : (h.adopt vb g o).M h.next = (vb, 0) := by simp [HS.adopt, upd]
theorem adopt_M_old {vb i : Nat} {g : Go.Obj} {o : Obj} (hi : i < h.next) : (h.adopt vb g o).M i = h.M i := by
  simp only [HS.adopt, upd]; rw [if_neg (by omega)]
theorem adopt_get {vb i : Nat} {g : Go.Obj} {o o' : Obj} (hi : (h.adopt vb g o).own.get i = some o') : (i = h.next ∧ o' = o) ∨ (i ≠ h.next ∧ h.own.get i = some o') := by
  simp only [HS.adopt] at hi
  by_cases hh : i = h.next
  · subst hh; rw [Tr.get_put_eq] at hi; cases hi; exact .inl ⟨rfl, rfl⟩
  · rw [Tr.get_put_ne _ _ hh] at hi; exact .inr ⟨hh, hi⟩

theorem Grow.adopt {vb : Nat} (ok : OK (C.hide vb) h) {c c' : Array Value} {ty : TypeId} (hb : h.w.heap[vb]? = some (.cells c ty (0, 0))) (hsz : c'.size = c.size) (o : Obj) :
    Grow (C.hide vb) h C (h.adopt vb (.cells c' ty (0, 0)) o) where
  stable := fun b s => by
    have hne : b ≠ vb := fun e => s.2.2 (.inr e)
    refine ⟨⟨by simp [HS.adopt]; exact s.1, ?_, fun hx => s.2.2 (.inl hx)⟩, adopt_other hne⟩
    rintro ⟨i, oi, h1, h2⟩
    rcases adopt_get h1 with ⟨rfl, _⟩ | ⟨hi, h1⟩
    · rw [adopt_M_new] at h2; exact hne h2.symm
    · rw [adopt_M_old (ok.id _ _ h1).1] at h2
      exact s.2.1 ⟨i, oi, h1, h2⟩
  next := by simp [HS.adopt]
  M := fun i hi => adopt_M_old hi
  live := fun i o' hi ho => by
    rcases adopt_get ho with ⟨rfl, _⟩ | ⟨_, h1⟩
    · omega
    · exact ⟨o', h1, o'.sim_refl⟩
  cells := fun b c1 e f hb1 => by
    by_cases hbe : b = vb
    · subst hbe
      rw [hb] at hb1
      simp only [Option.some.injEq, Go.Obj.cells.injEq] at hb1
      obtain ⟨rfl, rfl, rfl⟩ := hb1
      exact ⟨c', (0, 0), adopt_self (lt_of_heap hb), hsz⟩
    · exact ⟨c1, f, by rw [adopt_other hbe]; exact hb1, rfl⟩

theorem OK.adopt {vb : Nat} (ok : OK (C.hide vb) h) (hX : ¬ C.X vb) {c c' : Array Value} {ty : TypeId} (hb : h.w.heap[vb]? = some (.cells c ty (0, 0))) (hsz : c'.size = c.size) {o : Obj}
    (ho : OR C (h.adopt vb (.cells c' ty (0, 0)) o) h.next o) : OK C (h.adopt vb (.cells c' ty (0, 0)) o) where
  id := fun i o' hg => by
    rcases adopt_get hg with ⟨rfl, rfl⟩ | ⟨hi, h1⟩
    · rw [adopt_M_new]
      exact ⟨by simp [HS.adopt], by simp [HS.adopt]; exact lt_of_heap hb, hX, ho⟩
    · obtain ⟨k1, k2, k3, k4⟩ := ok.id _ _ h1
      have hne : (h.M i).1 ≠ vb := fun e => k3 (.inr e)
      refine ⟨by simp [HS.adopt]; omega, by rw [adopt_M_old k1]; simp [HS.adopt]; exact k2, by rw [adopt_M_old k1]; exact fun hx => k3 (.inl hx), OR.mono (Grow.adopt ok hb hsz o) rfl (adopt_M_old k1) (adopt_other hne) k4⟩
  inj := fun i j oi oj hi hj hM => by
    have other : ∀ k ok', (h.adopt vb (.cells c' ty (0, 0)) o).own.get k = some ok' → k ≠ h.next → h.own.get k = some ok' ∧ (h.M k).1 ≠ vb ∧ (h.adopt vb (.cells c' ty (0, 0)) o).M k = h.M k := by
      intro k ok' hk hne
      rcases adopt_get hk with ⟨e, _⟩ | ⟨_, h1⟩
      · exact absurd e hne
      · obtain ⟨k1, k2, k3, k4⟩ := ok.id _ _ h1
        exact ⟨h1, fun e => k3 (.inr e), adopt_M_old k1⟩
    by_cases h1 : i = h.next
    · by_cases h2 : j = h.next
      · rw [h1, h2]
      · obtain ⟨_, a2, a3⟩ := other j oj hj h2
        rw [h1, adopt_M_new, a3] at hM
        exact absurd hM.symm a2
    · obtain ⟨b1, b2, b3⟩ := other i oi hi h1
      by_cases h2 : j = h.next
      · rw [h2, adopt_M_new, b3] at hM
        exact absurd hM b2
      · obtain ⟨a1, a2, a3⟩ := other j oj hj h2
        rw [a3, b3] at hM
        exact ok.inj i j oi oj b1 a1 hM
  X := fun b hbx => by simp [HS.adopt]; exact ok.X b (.inl hbx)
  dvd := fun i t s xs hg => by
    rcases adopt_get hg with ⟨rfl, _⟩ | ⟨hi, h1⟩
    · rw [adopt_M_new]; simp
    · rw [adopt_M_old (ok.id _ _ h1).1]; exact ok.dvd _ _ _ _ h1

theorem Ext.adopt {vb : Nat} (e : Ext h0 h) (hvb : h0.w.heap.size ≤ vb) {c' : Array Value} {ty : TypeId} {o : Obj} (ok : ∀ i oi, h.own.get i = some oi → i < h.next) : Ext h0 (h.adopt vb (.cells c' ty (0, 0)) o) where
  size := by have := e.size; simp [HS.adopt]; exact this
  os := e.os
  tape := e.tape
  output := e.output
  old := fun b hb hn => by rw [adopt_other (by omega)]; exact e.old b hb hn
  next := by have := e.next; simp [HS.adopt]; omega
  M := fun i hi => by rw [adopt_M_old (Nat.lt_of_lt_of_le hi e.next)]; exact e.M i hi
  live := fun i o' hi ho => by
    have := e.next
    rcases adopt_get ho with ⟨rfl, _⟩ | ⟨_, h1⟩
    · omega
    · exact e.live i o' hi h1
  newb := fun i o' ho => by
    rcases adopt_get ho with ⟨rfl, _⟩ | ⟨_, h1⟩
    · rw [adopt_M_new]; exact .inr hvb
    · rw [adopt_M_old (ok _ _ h1)]; exact e.newb i o' h1
  cells := fun b c1 e1 f hb => by
    obtain ⟨c2, f2, h2, h3⟩ := e.cells b c1 e1 f hb
    have := lt_of_heap hb
    exact ⟨c2, f2, by rw [adopt_other (by omega)]; exact h2, h3⟩

theorem DR.mono {C' : Cx} {h' : HS} (e : Grow C h C' h') : ∀ {ds : List Dfr} {cs : List Deferred}, DR C h ds cs → DR C' h' ds cs
  | [], cs, hr => hr
  | .call g args :: rest, cs, ⟨d, ds', h1, ⟨cap, h2, h3⟩, h4⟩ => ⟨d, ds', h1, ⟨cap, h2, h3.mono e⟩, DR.mono e h4⟩
  | .rnd :: rest, cs, hr => hr
  | .mark id :: rest, cs, ⟨b, ds', h1, h2, h3, h4⟩ => ⟨b, ds', h1, Nat.lt_of_lt_of_le h2 e.next, fun hh => by
      obtain ⟨o, ho, hs⟩ := e.live id _ h2 hh
      cases o <;> simp [Obj.sim] at hs
      rw [e.M id h2]; exact h3 ho, DR.mono e h4⟩
theorem GOK.mono {G : Glob} {C' : Cx} {h' : HS} (e : Grow C h C' h') (hg : GOK G C h) : GOK G C' h' := fun g cs hh => (hg g cs hh).mono e

/-! ### The same objects, written otherwise -/
def HS.reown (h : HS) (own : Tr Obj) : HS := { h with own := own }
theorem Grow.reown {own : Tr Obj} (he : ∀ i, own.get i = h.own.get i) : Grow C h C (h.reown own) where
  stable := fun b s => ⟨⟨s.1, fun ⟨i, o, h1, h2⟩ => s.2.1 ⟨i, o, by rw [← he]; exact h1, h2⟩, s.2.2⟩, rfl⟩
  next := Nat.le_refl _
  M := fun _ _ => rfl
  live := fun i o' _ ho => ⟨o', by rw [← he]; exact ho, o'.sim_refl⟩
  cells := fun b c e f hb => ⟨c, f, hb, rfl⟩
theorem OK.reown (ok : OK C h) {own : Tr Obj} (he : ∀ i, own.get i = h.own.get i) : OK C (h.reown own) where
  id := fun i o ho => by
    obtain ⟨h1, h2, h3, h4⟩ := ok.id i o (by rw [← he]; exact ho)
    exact ⟨h1, h2, h3, OR.mono (Grow.reown he) rfl rfl rfl h4⟩
  inj := fun i j oi oj hi hj hM => ok.inj i j oi oj (by rw [← he]; exact hi) (by rw [← he]; exact hj) hM
  X := ok.X
  dvd := fun i t s xs ho => ok.dvd i t s xs (by rw [← he]; exact ho)
theorem Ext.reown (e : Ext h0 h) {own : Tr Obj} (he : ∀ i, own.get i = h.own.get i) : Ext h0 (h.reown own) where
  size := e.size
  os := e.os
  tape := e.tape
  output := e.output
  old := e.old
  next := e.next
  M := e.M
  live := fun i o' hi ho => e.live i o' hi (by rw [← he]; exact ho)
  newb := fun i o' ho => e.newb i o' (by rw [← he]; exact ho)
  cells := e.cells
end

/-! ### Guards, operands -/
section
variable {P : Program} {G : Glob} {C : Cx} {h : HS} {E : Tr D} {a : Act}

/-- A temporary holds what the abstract environment says. -/
def Holds1 (C : Cx) (h : HS) (E : Tr D) (tmps : Array Value) (t : Nat) : Prop := ∀ d, E.get t = some d → ∃ u, tmps[t]? = some u ∧ R C h d u

theorem guard_sound1 {nt : Nat} {ops : Array Oper} {o : Oper} {i : Ins} (hc : cins P G nt (dstOf ops) o = some i) (he : ∀ t b, i.guard = some (t, b) → Holds1 C h E a.tmps t) {b : Bool} (hg : dguard E i.guard = some b) :
    Region.wanted o (yielded ops a.tmps) = b := by
  obtain ⟨_, _, _, hgd⟩ := cins_inv hc
  rcases hgd with ⟨hgo, hgi⟩ | ⟨j, w, t, hgo, hy, hgi⟩
  · rw [hgi] at hg
    simp only [dguard, Option.some.injEq] at hg
    simp [Region.wanted, hgo, hg]
  · have he := he t w hgi
    rw [hgi] at hg
    simp only [Region.wanted, hgo]
    have hdst : (ops[j]?).bind (·.dst) = some t := by
      simp only [dstOf, Option.map_eq_some_iff] at hy
      obtain ⟨oj, h1, h2⟩ := hy
      simp [h1, h2]
    simp only [dguard] at hg
    split at hg
    · rename_i b' hb
      obtain ⟨u, h1, h2⟩ := he _ hb
      simp only [R] at h2; subst h2
      simp only [Option.some.injEq] at hg; subst hg
      simp [yielded, hdst, h1]
    · rename_i hb
      obtain ⟨u, h1, h2⟩ := he _ hb
      simp only [R, RL] at h2
      obtain ⟨cs, rfl, _⟩ := h2
      simp only [Option.some.injEq] at hg; subst hg
      simp [yielded, hdst, h1]
    · cases hg

theorem opdOK_at (hg : GOK G C h) (x : Operand) (he : ∀ t, x = .tmp t → Holds1 C h E a.tmps t) : OpdOK C h G E a x := by
  intro y hy d hd
  cases x with
  | tmp t =>
    simp only [copd, Option.some.injEq] at hy; subst hy
    simp only [ev] at hd
    obtain ⟨u, h1, h2⟩ := he t rfl d hd
    have : a.eval (.tmp t) = u := by simp [Act.eval, Array.getD_eq_getD_getElem?, h1]
    rw [this]; exact h2
  | const v =>
    simp only [copd, Option.map_eq_some_iff] at hy
    obtain ⟨d', h1, rfl⟩ := hy
    simp only [ev, Option.some.injEq] at hd; subst hd
    exact ofV_sound h1 C h
  | global g =>
    simp only [copd, Option.map_eq_some_iff] at hy
    obtain ⟨cs, h1, rfl⟩ := hy
    simp only [ev, Option.some.injEq] at hd; subst hd
    exact hg g cs h1
  | func f =>
    simp only [copd, Option.some.injEq] at hy; subst hy
    simp only [ev, Option.some.injEq] at hd; subst hd
    simp only [R]
    exact ⟨#[], #[], rfl, RL.nil, RL.nil⟩

theorem uses_opd {ops : Array Oper} {o : Oper} {t : Nat} (h : (Operand.tmp t) ∈ o.op.operands.toList) : t ∈ usesOf ops o := by
  simp only [usesOf]
  refine List.mem_append_left _ (List.mem_filterMap.2 ⟨.tmp t, h, rfl⟩)
theorem uses_guard {nt : Nat} {ops : Array Oper} {o : Oper} {i : Ins} (hc : cins P G nt (dstOf ops) o = some i) {t : Nat} {b : Bool} (h : i.guard = some (t, b)) : t ∈ usesOf ops o := by
  obtain ⟨_, _, _, hgd⟩ := cins_inv hc
  rcases hgd with ⟨hgo, hgi⟩ | ⟨j, w, t', hgo, hy, hgi⟩
  · rw [hgi] at h; cases h
  · rw [hgi] at h
    simp only [Option.some.injEq, Prod.mk.injEq] at h
    obtain ⟨rfl, rfl⟩ := h
    simp only [usesOf, hgo, hy]
    exact List.mem_append_right _ (by simp)
end
end Gv
