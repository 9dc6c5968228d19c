/- Part of the proof of ToolNumbers by an evaluator that is proved sound: B23. No condition of its own. -/
import Derived.Test.YtbhbbjgaahfinaaGreatDoorB22
set_option linter.unusedVariables false
set_option linter.unusedSimpArgs false
/-! Regions that draw their order: the plan. -/
namespace Gv
open Go
set_option linter.unusedVariables false

theorem List.getD_of {α : Type} [Inhabited α] {l : List α} {i : Nat} {x : α} (h : l[i]? = some x) : l.getD i default = x := by simp [List.getD_eq_getElem?_getD, h]

section
variable {P : Program} {G : Glob} {T : Tab} {self : IC → St → Option (DX × St)} {nt : Nat} {ops : Array Oper}

def scOf (rs : List Rec) (k : Nat) : Nat := (rs.take k).countP (fun r => r.cls.steps)

theorem sc_succ {rs : List Rec} {k : Nat} {r : Rec} (h : rs[k]? = some r) : scOf rs (k + 1) = scOf rs k + if r.cls.steps then 1 else 0 := by
  simp only [scOf]
  rw [List.take_add_one, h, List.countP_append]
  simp [List.countP_cons]
theorem sc_mono {rs : List Rec} {i j : Nat} (h : i ≤ j) : scOf rs i ≤ scOf rs j := by
  simp only [scOf]
  have : rs.take i = (rs.take j).take i := by rw [List.take_take, Nat.min_eq_left h]
  rw [this]
  exact (List.take_sublist _ _).countP_le
theorem sc_lt {rs : List Rec} {i j : Nat} {r : Rec} (hi : rs[i]? = some r) (hs : r.cls.steps = true) (h : i < j) : scOf rs i < scOf rs j := by
  have h1 := sc_succ hi
  rw [hs] at h1
  have h2 := sc_mono (rs := rs) (show i + 1 ≤ j from h)
  simp at h1; omega
/-- Each number of steps ahead is some step's. -/
theorem sc_exists {rs : List Rec} : ∀ (k : Nat), k ≤ rs.length → ∀ m, m < scOf rs k → ∃ q r, q < k ∧ rs[q]? = some r ∧ r.cls.steps = true ∧ scOf rs q = m
  | 0, _, m, hm => by simp [scOf] at hm
  | k + 1, hk, m, hm => by
    have hr : rs[k]? = some rs[k] := by simp
    have h1 := sc_succ hr
    by_cases hlt : m < scOf rs k
    · obtain ⟨q, r, h2, h3⟩ := sc_exists k (by omega) m hlt
      exact ⟨q, r, by omega, h3⟩
    · cases hc : (rs[k]).cls.steps
      · rw [hc] at h1; simp at h1; omega
      · rw [hc] at h1; simp at h1
        exact ⟨k, rs[k], by omega, hr, hc, by omega⟩

/-- What the compiler looked at. -/
structure Looked (ops : Array Oper) (bs : List Nat) (l : List (Ins × Cls)) : Prop where
  ok : drawOK ops bs (mkItems ops.toList l 0 0) = true
  len : l.length = ops.size

structure Facts (ops : Array Oper) (bs : List Nat) (rs : List Rec) : Prop where
  len : rs.length = ops.size
  bit : ∀ i o, ops[i]? = some o → ∀ j, hasB bs i j = true ↔ ∃ e ∈ o.after, Region.binds .any e = true ∧ (e.on = j ∨ hasB bs e.on j = true)
  on : ∀ i o, ops[i]? = some o → ∀ e ∈ o.after, Region.binds .any e = true → e.on < i
  pair : ∀ i j oi oj ri rj, ops[i]? = some oi → ops[j]? = some oj → rs[i]? = some ri → rs[j]? = some rj → i ≠ j →
    (∀ t, edst rj.ins rj.cls = some t → edst ri.ins ri.cls ≠ some t ∧ (t ∈ usesOf ops oi → hasB bs i j = true ∨ hasB bs j i = true)) ∧
    (ri.cls.steps = true → rj.cls.steps = true → scOf rs j < scOf rs i → hasB bs i j = true ∨ (ri.cls = .swap ∧ rj.cls ≠ .swap ∧ scOf rs i = scOf rs j + 1))
  look : ∀ i ri lo hi, rs[i]? = some ri → ri.cls = .look lo hi → lo = (mkItems ops.toList (rs.map fun r => (r.ins, r.cls)) 0 0).countP (fun y => y.c.steps && hasB bs i y.k) ∧
    hi + (mkItems ops.toList (rs.map fun r => (r.ins, r.cls)) 0 0).countP (fun y => y.c.steps && hasB bs y.k i) = (mkItems ops.toList (rs.map fun r => (r.ins, r.cls)) 0 0).countP (fun y => y.c.steps)
  var : varOK ops bs (mkItems ops.toList (rs.map fun r => (r.ins, r.cls)) 0 0) = true

theorem scOf_eq (rs : List Rec) (i : Nat) : ((rs.map fun r => (r.ins, r.cls)).take i).countP (fun x => x.2.steps) = scOf rs i := by
  rw [← List.map_take, List.countP_map]; rfl

theorem isSwap_iff {c : Cls} : isSwap c = true ↔ c = .swap := by cases c <;> simp [isSwap]

theorem facts_of {bs : List Nat} {rs : List Rec} (lk : Looked ops bs (rs.map fun r => (r.ins, r.cls))) : Facts ops bs rs := by
  obtain ⟨hok, hlen⟩ := lk
  simp only [drawOK, Bool.and_eq_true] at hok
  obtain ⟨⟨⟨h1, h2⟩, h3⟩, h4⟩ := hok
  have mem : ∀ i o r, ops[i]? = some o → rs[i]? = some r → (⟨o, r.ins, r.cls, i, scOf rs i⟩ : DItem) ∈ mkItems ops.toList (rs.map fun r => (r.ins, r.cls)) 0 0 := by
    intro i o r ho hr
    have := mkItems_mem (os := ops.toList) (is := rs.map fun r => (r.ins, r.cls)) (k := 0) (s := 0) (i := i) (o := o) (x := (r.ins, r.cls)) (by simpa using ho) (by simp [hr])
    rw [scOf_eq] at this
    simpa using this
  refine ⟨by simpa using hlen, ?_, ?_, ?_, ?_, h4⟩
  · intro i o ho j
    have := (edgesOK_get h1 i o (by simpa using ho)).1
    rw [Nat.zero_add] at this
    simp only [hasB]
    rw [this, orAll_bit]
    simp [hasB]
  · intro i o ho e he hb
    have := (edgesOK_get h1 i o (by simpa using ho)).2 e he hb
    omega
  · intro i j oi oj ri rj hi hj hri hrj hij
    have hp := List.all_eq_true.1 (List.all_eq_true.1 h2 _ (mem i oi ri hi hri)) _ (mem j oj rj hj hrj)
    simp only [pairOK, Bool.or_eq_true, Bool.and_eq_true] at hp
    rcases hp with hp | ⟨hp1, hp2⟩
    · exact absurd (Nat.eq_of_beq_eq_true hp) hij
    · refine ⟨fun t ht => ?_, fun hsi hsj hlt => ?_⟩
      · rw [ht] at hp1
        simp only [Bool.and_eq_true, Bool.or_eq_true, Bool.not_eq_true'] at hp1
        obtain ⟨q1, q2⟩ := hp1
        refine ⟨fun he => ?_, fun hu => ?_⟩
        · rw [he] at q1; simp at q1
        · rcases q2 with (q2 | q2) | q2
          · have : (usesOf ops oi).any (Nat.beq t) = true := List.any_eq_true.2 ⟨t, hu, by simp⟩
            rw [this] at q2; cases q2
          · exact .inl q2
          · exact .inr q2
      · rw [hsi, hsj] at hp2
        have hb : Nat.blt (scOf rs j) (scOf rs i) = true := by simp [Nat.blt_eq, hlt]
        rw [hb] at hp2
        have hp3 : (hasB bs i j || (isSwap ri.cls && !isSwap rj.cls && Nat.beq (scOf rs i) (scOf rs j + 1))) = true := hp2
        rw [Bool.or_eq_true, Bool.and_eq_true, Bool.and_eq_true, Bool.not_eq_true'] at hp3
        rcases hp3 with hp2 | ⟨⟨q1, q2⟩, q3⟩
        · exact .inl hp2
        · refine .inr ⟨isSwap_iff.1 q1, fun hh => ?_, Nat.eq_of_beq_eq_true q3⟩
          rw [hh] at q2; cases q2
  · intro i ri lo hi hri hc
    have hi' : i < rs.length := (List.getElem?_eq_some_iff.1 hri).1
    have hi2 : i < ops.size := by simp at hlen; omega
    have hl := List.all_eq_true.1 h3 _ (mem i ops[i] ri (by simp [hi2]) hri)
    simp only [lookOK, hc, Bool.and_eq_true] at hl
    exact ⟨Nat.eq_of_beq_eq_true hl.1, Nat.eq_of_beq_eq_true hl.2⟩

def mkVi (items : List DItem) : Option VI :=
  match items.filter (fun x => isVar x.c), items.filter (fun x => isFill x.c) with
  | [v], [f] => (match f.c with | .fill t ty n => some ⟨v.k, f.k, t, ty, n⟩ | _ => none)
  | _, _ => none

def mkPlan (ops : Array Oper) (bs : List Nat) (rs : List Rec) (f : St3) (alt : Option (Nat × Tr Obj)) : PlanD where
  is := fun i => (rs.getD i default).ins
  cl := fun i => (rs.getD i default).cls
  E := fun k => (stAt rs f k).1
  d := fun i => (rs.getD i default).d
  bef := fun i j => i < ops.size ∧ hasB bs i j = true
  vi := mkVi (mkItems ops.toList (rs.map fun r => (r.ins, r.cls)) 0 0)
  S := fun x => match x with
    | (m, false) => (statesOf rs f.2.1 f.2.2).getD m f.2
    | (m, true) => (match alt with | some (_, own') => own' | none => .nil, ((statesOf rs f.2.1 f.2.2).getD m f.2).2)
  Mt := fun L x => match x with
    | (m, false) => m ≤ scOf rs rs.length ∧ ∀ i r, rs[i]? = some r → r.cls.steps = true → (L i = true ↔ scOf rs i < m)
    | (m, true) => (∃ own', alt = some (m, own')) ∧ ∀ i r, rs[i]? = some r → r.cls.steps = true → (L i = true ↔ scOf rs i < m ∨ scOf rs i = m + 1)

theorem lkAt_get {sts : List (Tr Obj × Nat)} {k : Rec} {lo : Nat} : ∀ {n : Nat}, lkAt sts k lo n = true → ∀ m, m < n → ∃ own next, sts[lo + m]? = some (own, next) ∧ lkSame own k = true
  | 0, _, m, hm => by omega
  | n + 1, h, m, hm => by
    simp only [lkAt, Bool.and_eq_true] at h
    obtain ⟨h1, h2⟩ := h
    by_cases hmn : m = n
    · subst hmn
      split at h1
      · rename_i own next hs; exact ⟨own, next, hs, h1⟩
      · cases h1
    · exact lkAt_get h2 m (by omega)

theorem lkSame_eq {own : Tr Obj} {k : Rec} (h : lkSame own k = true) : dlook own k.E k.ins = some k.d := by
  unfold lkSame at h
  split at h
  · rename_i d hd; rw [hd, D.beq_eq h]
  · cases h

theorem stateless_look {i : Ins} (hs : stateless i.op = true) {own own' : Tr Obj} {E : Tr D} : dlook own E i = dlook own' E i := by
  unfold dlook
  split
  · obtain ⟨dst, op, g⟩ := i
    cases op with
    | bin bop k x y =>
      cases k <;> simp [stateless] at hs <;> rfl
    | _ => first | (simp [stateless] at hs; done) | rfl
  · rfl
  · rfl
end
end Gv
