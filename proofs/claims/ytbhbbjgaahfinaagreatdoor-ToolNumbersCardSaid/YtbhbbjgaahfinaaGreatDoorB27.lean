/- Part of the proof of ToolNumbers by an evaluator that is proved sound: B27. No condition of its own. -/
import Derived.Test.YtbhbbjgaahfinaaGreatDoorB26
set_option linter.unusedVariables false
set_option linter.unusedSimpArgs false
/-! Regions that draw their order, on inputs that are not known: where what looks may not come elsewhere. -/
namespace Gv
open Go
set_option linter.unusedVariables false

section
variable (T : Tab)
/-- No order matters for what looks. -/
def easy (r : Rec) : Prop := match r.cls with
  | .look lo hi => lo = hi ∨ stateless r.ins.op = true
  | .step => True
  | .fill _ _ _ => True
  | .var => True
  | .swap => False
/-- A region that draws its order comes to a state that K takes. -/
def Dr (l : List (Ins × Cls)) (E : Tr D) (own : Tr Obj) (next : Nat) (K : Tr D → Tr Obj → Nat → Prop) : Prop :=
  ∃ rs E' own' next', K E' own' next' ∧ (∀ r ∈ rs, easy r) ∧ ∃ n, ∀ m, n ≤ m → ddraw T (dcode T m) l E own next = some (rs, E', own', next')
end

section
variable {T : Tab} {E : Tr D} {own own' : Tr Obj} {next next' : Nat} {dfs : List Dfr} {K : Tr D → Tr Obj → Nat → Prop} {l : List (Ins × Cls)} {cs : List IC} {Q : DX → St → Prop} {op : IOp} {d : D} {t g : Nat} {lo hi : Nat}

theorem dr_nil (h : K E own next) : Dr T [] E own next K := ⟨[], E, own, next, h, fun _ hr => by simp at hr, 0, fun _ _ => rfl⟩

theorem altOf_easy : ∀ (rs : List Rec) (m : Nat) (p : Option (Rec × Nat)), (∀ r ∈ rs, easy r) → altOf rs m p = some none
  | [], m, p, _ => rfl
  | r :: rs, m, p, h => by
    have h0 := h r (List.mem_cons_self ..)
    have ih := fun m p => altOf_easy rs m p (fun q hq => h q (List.mem_cons_of_mem _ hq))
    simp only [altOf]
    unfold easy at h0
    cases hc : r.cls <;> rw [hc] at h0
    · exact ih _ _
    · exact ih _ _
    · exact h0.elim
    · exact ih _ _
    · exact ih _ _
theorem lkOK_easy {sts : List (Tr Obj × Nat)} {r : Rec} (h : easy r) : lkOK sts none r = true := by
  unfold easy at h
  unfold lkOK
  cases hc : r.cls <;> rw [hc] at h <;> simp only
  split
  · rfl
  · rename_i hs
    rcases h with h | h
    · simp [h]
    · exact absurd h hs

theorem ws_draw (h : Dr T l E own next (fun E' own' next' => Ws T cs ⟨E', own', next', dfs⟩ Q)) : Ws T (.draw l :: cs) ⟨E, own, next, dfs⟩ Q := by
  obtain ⟨rs, E', own', next', hk, he, n, hn⟩ := h
  refine wp_of .normal ⟨E', own', next', dfs⟩ hk n fun m hm => ?_
  simp only [stepC, hn m hm, altOf_easy rs 0 none he]
  rw [if_pos]
  exact List.all_eq_true.2 fun r hr => lkOK_easy (he r hr)

theorem dr_cons {i : Ins} {c : Cls} {E1 : Tr D} {own1 : Tr Obj} {next1 : Nat} (he : easy ⟨i, c, E, own, next, d⟩) (n : Nat) (hd : ∀ m, n ≤ m → ddraw1 T (dcode T m) i c E own next = some (d, E1, own1, next1)) (h : Dr T l E1 own1 next1 K) : Dr T ((i, c) :: l) E own next K := by
  obtain ⟨rs, E', own', next', hk, hr, n2, hn⟩ := h
  refine ⟨⟨i, c, E, own, next, d⟩ :: rs, E', own', next', hk, ?_, max n n2, fun m hm => ?_⟩
  · intro r hr'
    rcases List.mem_cons.1 hr' with rfl | hr'
    · exact he
    · exact hr r hr'
  · simp only [ddraw, hd m (by omega), hn m (by omega)]
/-- What looks. -/
theorem dr_p (hs : lo = hi ∨ stateless op = true) (hd : dpure own E op = some d) (h : Dr T l (E.put t (some d)) own next K) : Dr T ((⟨some t, op, none⟩, .look lo hi) :: l) E own next K :=
  dr_cons hs 0 (fun m _ => by simp only [ddraw1, dlook, dguard, hd, b1]; rfl) h
theorem dr_g {b : Bool} (hs : lo = hi ∨ stateless op = true) (hg : E.get g = some (.v (.bool b))) (hd : dpure own E op = some d) (h : Dr T l (E.put t (some d)) own next K) : Dr T ((⟨some t, op, some (g, b)⟩, .look lo hi) :: l) E own next K :=
  dr_cons hs 0 (fun m _ => by simp only [ddraw1, dlook, dguard, hg, beq_self_eq_true, hd, b1]; rfl) h
theorem dr_f {b b' : Bool} {dst : Option Nat} (hs : lo = hi ∨ stateless op = true) (hg : E.get g = some (.v (.bool b'))) (hb : (b' == b) = false) (h : Dr T l (setDst E dst (.tup [])) own next K) : Dr T ((⟨dst, op, some (g, b)⟩, .look lo hi) :: l) E own next K :=
  dr_cons (d := .tup []) hs 0 (fun m _ => by simp only [ddraw1, dlook, dguard, hg, hb, b1]) h
theorem dr_u {b : Bool} {dst : Option Nat} (hs : lo = hi ∨ stateless op = true) (hg : E.get g = some (.tup [])) (h : Dr T l (setDst E dst (.tup [])) own next K) : Dr T ((⟨dst, op, some (g, b)⟩, .look lo hi) :: l) E own next K :=
  dr_cons (d := .tup []) hs 0 (fun m _ => by simp only [ddraw1, dlook, dguard, hg, b1]) h
theorem dr_fs {b b' : Bool} {dst : Option Nat} (hg : E.get g = some (.v (.bool b'))) (hb : (b' == b) = false) (h : Dr T l (setDst E dst (.tup [])) own next K) : Dr T ((⟨dst, op, some (g, b)⟩, .step) :: l) E own next K :=
  dr_cons (d := .tup []) trivial 0 (fun m _ => by simp only [ddraw1, stepAt, dguard, hg, hb]) h
theorem dr_us {b : Bool} {dst : Option Nat} (hg : E.get g = some (.tup [])) (h : Dr T l (setDst E dst (.tup [])) own next K) : Dr T ((⟨dst, op, some (g, b)⟩, .step) :: l) E own next K :=
  dr_cons (d := .tup []) trivial 0 (fun m _ => by simp only [ddraw1, stepAt, dguard, hg]) h
theorem step_imp {op : IOp} {self : IC → St → Option (DX × St)} (hn : dpure own E op = none) (hd : dimp own next E op = some (d, own', next')) : dstep T self own next E op = some (.ok d, own', next') := by
  cases op <;> first
    | (simp [dimp] at hd; done)
    | (simp only [dstep, dplain, hn, hd, ok3])
theorem dr_i {dst : Option Nat} (hn : dpure own E op = none) (hd : dimp own next E op = some (d, own', next')) (h : Dr T l (setDst E dst d) own' next' K) : Dr T ((⟨dst, op, none⟩, .step) :: l) E own next K :=
  dr_cons (d := d) trivial 0 (fun m _ => by simp only [ddraw1, stepAt, dguard, step_imp hn hd]) h
def Qd (T : Tab) (dst : Option Nat) (l : List (Ins × Cls)) (E : Tr D) (K : Tr D → Tr Obj → Nat → Prop) : Out → Tr Obj → Nat → Prop
  | .ok d, own, next => Dr T l (setDst E dst d) own next K
  | .pan _, _, _ => False
theorem dr_call {dst : Option Nat} {f : Nat} {args : List Opd} {ds : List D} (he : evs E args = some ds) (h : Cp T f ds own next (Qd T dst l E K)) : Dr T ((⟨dst, .call f args, none⟩, .step) :: l) E own next K := by
  obtain ⟨out, own', next', hq, n, hn⟩ := h
  cases out with
  | ok d => exact dr_cons (d := d) trivial n (fun m hm => by simp only [ddraw1, stepAt, dguard, dstep, he, b1, hn m hm]) hq
  | pan d => exact hq.elim
end
end Gv
