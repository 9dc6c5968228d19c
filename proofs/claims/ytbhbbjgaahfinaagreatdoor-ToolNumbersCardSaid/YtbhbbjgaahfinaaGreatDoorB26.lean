/- Part of the proof of ToolNumbers by an evaluator that is proved sound: B26. No condition of its own. -/
import Derived.IntWalk
import Derived.Test.YtbhbbjgaahfinaaGreatDoorB25
set_option linter.unusedVariables false
set_option linter.unusedSimpArgs false
/-! Proofs about the evaluator's runs on inputs that are not known: what a piece of code comes to. -/
namespace Gv
open Go
set_option linter.unusedVariables false

section
variable (T : Tab)
/-- Code c, from s on, comes to an end that Q takes. -/
def Wp (c : IC) (s : St) (Q : DX → St → Prop) : Prop := ∃ x s', Q x s' ∧ ∃ n, ∀ m, n ≤ m → dcode T m c s = some (x, s')
/-- A call comes to an end that Q takes. -/
def Cp (f : Nat) (args : List D) (own : Tr Obj) (next : Nat) (Q : Out → Tr Obj → Nat → Prop) : Prop := ∃ out own' next', Q out own' next' ∧ ∃ n, ∀ m, n ≤ m → dcall T (dcode T m) f args own next = some (out, own', next')
/-- Operations, from s on. -/
def Op (is : List Ins) (s : St) (Q : DX → St → Prop) : Prop := ∃ x s', Q x s' ∧ ∃ n, ∀ m, n ≤ m → dops T (dcode T m) is s = some (x, s')

/-- Behind normal code. -/
def Qn (K : St → Prop) (Q : DX → St → Prop) : DX → St → Prop
  | .normal, s => K s
  | x, s => Q x s
/-- Behind a block. -/
def Qb (id : Nat) (K : St → Prop) (Q : DX → St → Prop) : DX → St → Prop
  | .normal, s => K s
  | .exit id', s => if id' = id then K s else Q (.exit id') s
  | x, s => Q x s
/-- Code, one piece behind the other. -/
def Ws : List IC → St → (DX → St → Prop) → Prop
  | [], s, Q => Q .normal s
  | c :: cs, s, Q => Wp T c s (Qn (fun s1 => Ws cs s1 Q) Q)
end

section
variable {T : Tab} {s s1 s2 : St} {Q : DX → St → Prop} {a b c : IC} {cs : List IC}

theorem Wp.mono {Q' : DX → St → Prop} (h : Wp T c s Q) (hq : ∀ x s', Q x s' → Q' x s') : Wp T c s Q' := by
  obtain ⟨x, s', q, r⟩ := h; exact ⟨x, s', hq _ _ q, r⟩
theorem Cp.mono {f : Nat} {args : List D} {own : Tr Obj} {next : Nat} {Q Q' : Out → Tr Obj → Nat → Prop} (h : Cp T f args own next Q) (hq : ∀ o a b, Q o a b → Q' o a b) : Cp T f args own next Q' := by
  obtain ⟨x, a, b, q, r⟩ := h; exact ⟨x, a, b, hq _ _ _ q, r⟩
theorem Ws.mono {Q' : DX → St → Prop} (hq : ∀ x s', Q x s' → Q' x s') : ∀ {cs : List IC} {s : St}, Ws T cs s Q → Ws T cs s Q'
  | [], s, h => hq _ _ h
  | c :: cs, s, h => Wp.mono h fun x s' hx => by cases x <;> first | exact Ws.mono hq hx | exact hq _ _ hx

theorem wp_of (x : DX) (s' : St) (hq : Q x s') (n : Nat) (h : ∀ m, n ≤ m → stepC T (dcode T m) c s = some (x, s')) : Wp T c s Q :=
  ⟨x, s', hq, n + 1, fun m hm => by
    obtain ⟨k, rfl⟩ : ∃ k, m = k + 1 := ⟨m - 1, by omega⟩
    rw [dcode_succ]; exact h k (by omega)⟩

theorem ws_one : Wp T c s Q → Ws T [c] s Q := fun h => Wp.mono h fun x s' hx => by cases x <;> exact hx
theorem ws_nil (h : Q .normal s) : Ws T [] s Q := h
theorem ws_skip (h : Ws T cs s Q) : Ws T (.skip :: cs) s Q := wp_of .normal s h 0 fun _ _ => rfl
theorem ws_exit {id : Nat} (h : Q (.exit id) s) : Ws T (.exit id :: cs) s Q := wp_of (.exit id) s h 0 fun _ _ => rfl
theorem ws_ret (h : Q .ret s) : Ws T (.ret :: cs) s Q := wp_of .ret s h 0 fun _ _ => rfl
theorem wp_seq (h : Ws T [a, b] s Q) : Wp T (.seq a b) s Q := by
  obtain ⟨x, s1, hq, n, hn⟩ := h
  cases x with
  | normal =>
    obtain ⟨y, s2, hq2, n2, hn2⟩ := hq
    refine wp_of y s2 ?_ (max n n2) fun m hm => by
      simp only [stepC, hn m (by omega), hn2 m (by omega)]
    cases y <;> exact hq2
  | _ => exact wp_of _ s1 hq n fun m hm => by simp only [stepC, hn m hm]
theorem ws_seq (h : Ws T (a :: b :: cs) s Q) : Ws T (.seq a b :: cs) s Q := by
  refine wp_seq (Wp.mono h fun x s' hx => ?_)
  cases x with
  | normal => exact Wp.mono hx fun y s2 hy => by cases y <;> exact hy
  | _ => exact hx
theorem ws_cond {x : Opd} {t : Bool} (hc : ev s.E x = some (.v (.bool t))) (h : Ws T ((if t then a else b) :: cs) s Q) : Ws T (.cond x a b :: cs) s Q := by
  obtain ⟨y, s1, hq, n, hn⟩ := h
  refine wp_of y s1 hq n fun m hm => ?_
  cases t
  · simp only [stepC, hc]; exact hn m hm
  · simp only [stepC, hc]; exact hn m hm
theorem ws_cond_t {x : Opd} (hc : ev s.E x = some (.v (.bool true))) (h : Ws T (a :: cs) s Q) : Ws T (.cond x a b :: cs) s Q := ws_cond hc h
theorem ws_cond_f {x : Opd} (hc : ev s.E x = some (.v (.bool false))) (h : Ws T (b :: cs) s Q) : Ws T (.cond x a b :: cs) s Q := ws_cond hc h
theorem ws_block {id : Nat} (h : Ws T [b] s (Qb id (fun s1 => Ws T cs s1 Q) Q)) : Ws T (.block id b :: cs) s Q := by
  obtain ⟨x, s1, hq, n, hn⟩ := h
  cases x with
  | exit id' =>
    simp only [Qn, Qb] at hq
    by_cases hid : id' = id
    · rw [if_pos hid] at hq
      exact wp_of .normal s1 hq n fun m hm => by simp only [stepC, hn m hm, if_pos hid]
    · rw [if_neg hid] at hq
      exact wp_of (.exit id') s1 hq n fun m hm => by simp only [stepC, hn m hm, if_neg hid]
  | normal => exact wp_of .normal s1 hq n fun m hm => by simp only [stepC, hn m hm]
  | ret => exact wp_of .ret s1 hq n fun m hm => by simp only [stepC, hn m hm]
  | goto l => exact wp_of (.goto l) s1 hq n fun m hm => by simp only [stepC, hn m hm]
  | panic d => exact wp_of (.panic d) s1 hq n fun m hm => by simp only [stepC, hn m hm]
/-- A loop, once round. -/
theorem wp_loop (h : Ws T [b] s (Qn (fun s1 => Wp T (.loop b) s1 Q) Q)) : Wp T (.loop b) s Q := by
  obtain ⟨x, s1, hq, n, hn⟩ := h
  cases x with
  | normal =>
    obtain ⟨y, s2, hq2, n2, hn2⟩ := hq
    exact wp_of y s2 hq2 (max n n2) fun m hm => by
      simp only [stepC, hn m (by omega), hn2 m (by omega)]
  | _ => exact wp_of _ s1 hq n fun m hm => by simp only [stepC, hn m hm]
/-- A loop, by what holds at its head, and what every round lowers. -/
theorem ws_loop (I : Nat → St → Prop) {k : Nat} (h0 : I k s) (h : ∀ k s, I k s → Ws T [b] s (Qn (fun s1 => ∃ j, j < k ∧ I j s1) Q)) : Ws T (.loop b :: cs) s Q := by
  have key : ∀ k s, I k s → Wp T (.loop b) s (Qn (fun _ => False) Q) := by
    intro k
    induction k using Nat.strongRecOn with
    | _ k ih =>
      intro s hs
      refine wp_loop (Ws.mono (fun x s' hx => ?_) (h k s hs))
      cases x with
      | normal => obtain ⟨j, hj, hI⟩ := hx; exact ih j hj s' hI
      | _ => exact hx
  refine Wp.mono (key k s h0) fun x s' hx => ?_
  cases x with
  | normal => exact hx.elim
  | _ => exact hx

/-! ### Operations -/
theorem ws_region {is : List Ins} (h : Op T is s (Qn (fun s1 => Ws T cs s1 Q) Q)) : Ws T (.region is :: cs) s Q := by
  obtain ⟨x, s1, hq, n, hn⟩ := h
  exact wp_of x s1 hq n fun m hm => by simp only [stepC]; exact hn m hm
theorem op_nil (h : Q .normal s) : Op T [] s Q := ⟨.normal, s, h, 0, fun _ _ => rfl⟩
/-- An operation that makes no call. -/
def plain1 (i : Ins) (s : St) : Option St :=
  match dguard s.E i.guard with
  | some true => (match dplain s.own s.next s.E i.op with | some (d, own, next) => some ⟨setDst s.E i.dst d, own, next, s.dfs⟩ | none => none)
  | some false => some ⟨setDst s.E i.dst (.tup []), s.own, s.next, s.dfs⟩
  | none => none
def plains : List Ins → St → Option St
  | [], s => some s
  | i :: is, s => match plain1 i s with | some s' => plains is s' | none => none
theorem plain1_dins {i : Ins} {self : IC → St → Option (DX × St)} (h : plain1 i s = some s1) : dins T self i s = some (.normal, s1) := by
  unfold plain1 at h
  unfold dins
  split at h
  · rename_i hg
    rw [hg]
    simp only
    split at h
    · rename_i d own next hp
      simp only [Option.some.injEq] at h; subst h
      obtain ⟨dst, op, g⟩ := i
      cases op <;> first
        | (simp [dplain, dpure, dimp] at hp; done)
        | (simp only [dstep]; rw [hp]; rfl)
    · cases h
  · rename_i hg
    rw [hg]
    simp only [Option.some.injEq] at h; subst h; rfl
  · cases h
theorem op_plain {i : Ins} {is : List Ins} (h : plain1 i s = some s1) (h2 : Op T is s1 Q) : Op T (i :: is) s Q := by
  obtain ⟨x, s2, hq, n, hn⟩ := h2
  exact ⟨x, s2, hq, n, fun m hm => by simp only [dops, plain1_dins h]; exact hn m hm⟩
theorem op_plains {is js : List Ins} (h : plains is s = some s1) (h2 : Op T js s1 Q) : Op T (is ++ js) s Q := by
  induction is generalizing s with
  | nil => simp only [plains, Option.some.injEq] at h; subst h; exact h2
  | cons i is ih =>
    simp only [plains] at h
    cases hp : plain1 i s with
    | none => simp [hp] at h
    | some s3 => rw [hp] at h; exact op_plain hp (ih h)
theorem ws_plains {is : List Ins} (h : plains is s = some s1) (h2 : Ws T cs s1 Q) : Ws T (.region is :: cs) s Q := by
  refine ws_region ?_
  have := op_plains (T := T) (js := []) (Q := Qn (fun s1 => Ws T cs s1 Q) Q) h (op_nil h2)
  simpa using this
/-- Behind a call. -/
def Qc (T : Tab) (dst : Option Nat) (is : List Ins) (s : St) (Q : DX → St → Prop) : Out → Tr Obj → Nat → Prop
  | .ok d, own, next => Op T is ⟨setDst s.E dst d, own, next, s.dfs⟩ Q
  | .pan d, own, next => Q (.panic d) ⟨s.E, own, next, s.dfs⟩
theorem op_call {dst : Option Nat} {f : Nat} {args : List Opd} {ds : List D} {is : List Ins} (he : evs s.E args = some ds) (h : Cp T f ds s.own s.next (Qc T dst is s Q)) : Op T (⟨dst, .call f args, none⟩ :: is) s Q := by
  obtain ⟨out, own', next', hq, n, hn⟩ := h
  cases out with
  | ok d =>
    obtain ⟨x, s2, hq2, n2, hn2⟩ := hq
    exact ⟨x, s2, hq2, max n n2, fun m hm => by
      simp only [dops, dins, dguard, dstep, he, b1, hn m (by omega)]; exact hn2 m (by omega)⟩
  | pan d => exact ⟨.panic d, _, hq, n, fun m hm => by simp only [dops, dins, dguard, dstep, he, b1, hn m (by omega)]⟩
theorem op_callv {dst : Option Nat} {f : Opd} {g : Nat} {first capt : List D} {args : List Opd} {ds : List D} {is : List Ins} (hf : ev s.E f = some (.fn (.func g) first capt)) (he : evs s.E args = some ds) (h : Cp T g (first ++ (ds ++ capt)) s.own s.next (Qc T dst is s Q)) :
    Op T (⟨dst, .callv f args, none⟩ :: is) s Q := by
  obtain ⟨out, own', next', hq, n, hn⟩ := h
  cases out with
  | ok d =>
    obtain ⟨x, s2, hq2, n2, hn2⟩ := hq
    exact ⟨x, s2, hq2, max n n2, fun m hm => by
      simp only [dops, dins, dguard, dstep, he, b1, hf, hn m (by omega)]; exact hn2 m (by omega)⟩
  | pan d => exact ⟨.panic d, _, hq, n, fun m hm => by simp only [dops, dins, dguard, dstep, he, b1, hf, hn m (by omega)]⟩

/-! ### Calls -/
/-- Where a function without deferred calls is left. -/
def Qr (res : List RK) (Q : Out → Tr Obj → Nat → Prop) : DX → St → Prop
  | .normal, s => s.dfs = [] ∧ ∃ ds, dress s.E s.own res = some ds ∧ Q (.ok (tupOf ds)) s.own s.next
  | .ret, s => s.dfs = [] ∧ ∃ ds, dress s.E s.own res = some ds ∧ Q (.ok (tupOf ds)) s.own s.next
  | .panic d, s => s.dfs = [] ∧ Q (.pan d) s.own s.next
  | _, _ => False
theorem cp_of {f : Nat} {args : List D} {own : Tr Obj} {next : Nat} {Q : Out → Tr Obj → Nat → Prop} {fi : FI} (hp : T.prim f = none) (hc : T.code f = some fi) (hn : args.length = fi.np)
    (h : Ws T [fi.body] ⟨putArgs args 0 .nil, own, next, []⟩ (Qr fi.res Q)) : Cp T f args own next Q := by
  obtain ⟨x, s', hq, n, hh⟩ := h
  cases x with
  | normal =>
    obtain ⟨hd, ds, h1, h2⟩ := hq
    exact ⟨_, _, _, h2, n, fun m hm => by simp only [dcall, hp, hc, b1, hn, if_true, hh m hm, hd, dleave, h1]⟩
  | ret =>
    obtain ⟨hd, ds, h1, h2⟩ := hq
    exact ⟨_, _, _, h2, n, fun m hm => by simp only [dcall, hp, hc, b1, hn, if_true, hh m hm, hd, dleave, h1]⟩
  | panic d =>
    obtain ⟨hd, h2⟩ := hq
    exact ⟨_, _, _, h2, n, fun m hm => by simp only [dcall, hp, hc, b1, hn, if_true, hh m hm, hd, dleave]⟩
  | exit id => exact hq.elim
  | goto l => exact hq.elim
/-- A primitive. -/
theorem cp_prim {f : Nat} {args : List D} {own : Tr Obj} {next : Nat} {Q : Out → Tr Obj → Nat → Prop} {p : Prim} {d : D} (hp : T.prim f = some p) (hd : dprim own p args = some d) (h : Q (.ok d) own next) : Cp T f args own next Q :=
  ⟨_, _, _, h, 0, fun m hm => by simp only [dcall, hp, b1, hd]⟩
/-- A call that was evaluated. -/
theorem cp_done {f : Nat} {args : List D} {own own' : Tr Obj} {next next' : Nat} {out : Out} {Q : Out → Tr Obj → Nat → Prop} (n : Nat) (h : ∀ m, n ≤ m → dcall T (dcode T m) f args own next = some (out, own', next')) (hq : Q out own' next') : Cp T f args own next Q :=
  ⟨_, _, _, hq, n, h⟩

/-! ### What is kept -/
/-- Older objects are as they were. -/
structure Kp (own : Tr Obj) (next : Nat) (own' : Tr Obj) (next' : Nat) : Prop where
  le : next ≤ next'
  get : ∀ id, id < next → own'.get id = own.get id
theorem Kp.refl (own : Tr Obj) (next : Nat) : Kp own next own next := ⟨Nat.le_refl _, fun _ _ => rfl⟩
theorem Kp.trans {o1 o2 o3 : Tr Obj} {n1 n2 n3 : Nat} (h : Kp o1 n1 o2 n2) (k : Kp o2 n2 o3 n3) : Kp o1 n1 o3 n3 :=
  ⟨Nat.le_trans h.le k.le, fun id hid => by rw [k.get id (by have := h.le; omega), h.get id hid]⟩
theorem Kp.put {o1 o2 : Tr Obj} {n1 n2 : Nat} (h : Kp o1 n1 o2 n2) {id : Nat} (hid : n1 ≤ id) (x : Option Obj) {n3 : Nat} (hn : n2 ≤ n3) : Kp o1 n1 (o2.put id x) n3 :=
  ⟨Nat.le_trans h.le hn, fun j hj => by rw [Tr.get_put_ne _ _ (by omega), h.get j hj]⟩

/-! ### Straight code, operation by operation -/
section
variable {E : Tr D} {own own' : Tr Obj} {next next' : Nat} {dfs : List Dfr} {is : List Ins} {op : IOp} {d : D} {t g : Nat}
theorem wr_nil (h : Ws T cs s Q) : Ws T (.region [] :: cs) s Q := ws_plains (s1 := s) rfl h
theorem wr_1 {i : Ins} (h1 : plain1 i s = some s1) (h : Ws T (.region is :: cs) s1 Q) : Ws T (.region (i :: is) :: cs) s Q := by
  refine ws_region (op_plain h1 ?_)
  obtain ⟨x, s2, hq, n, hn⟩ := h
  refine ⟨x, s2, hq, n, fun m hm => ?_⟩
  have := hn (m + 1) (by omega)
  simpa only [dcode_succ, stepC] using (show stepC T (dcode T m) (.region is) s1 = some (x, s2) from by
    have h2 := this
    rw [dcode_succ] at h2; exact h2)
/-- A value is computed. -/
theorem wr_p (hd : dpure own E op = some d) (h : Ws T (.region is :: cs) ⟨E.put t (some d), own, next, dfs⟩ Q) : Ws T (.region (⟨some t, op, none⟩ :: is) :: cs) ⟨E, own, next, dfs⟩ Q :=
  wr_1 (by simp only [plain1, dguard, dplain, hd]; rfl) h
/-- The same, under a guard that holds. -/
theorem wr_g {b : Bool} (hg : E.get g = some (.v (.bool b))) (hd : dpure own E op = some d) (h : Ws T (.region is :: cs) ⟨E.put t (some d), own, next, dfs⟩ Q) : Ws T (.region (⟨some t, op, some (g, b)⟩ :: is) :: cs) ⟨E, own, next, dfs⟩ Q :=
  wr_1 (by simp only [plain1, dguard, hg, beq_self_eq_true, dplain, hd]; rfl) h
/-- A guard that does not hold. -/
theorem wr_f {b b' : Bool} {dst : Option Nat} (hg : E.get g = some (.v (.bool b'))) (hb : (b' == b) = false) (h : Ws T (.region is :: cs) ⟨setDst E dst (.tup []), own, next, dfs⟩ Q) : Ws T (.region (⟨dst, op, some (g, b)⟩ :: is) :: cs) ⟨E, own, next, dfs⟩ Q :=
  wr_1 (by simp only [plain1, dguard, hg, hb]) h
/-- A guard that was itself skipped. -/
theorem wr_u {b : Bool} {dst : Option Nat} (hg : E.get g = some (.tup [])) (h : Ws T (.region is :: cs) ⟨setDst E dst (.tup []), own, next, dfs⟩ Q) : Ws T (.region (⟨dst, op, some (g, b)⟩ :: is) :: cs) ⟨E, own, next, dfs⟩ Q :=
  wr_1 (by simp only [plain1, dguard, hg]) h
/-- The state changes. -/
theorem wr_i {dst : Option Nat} (hn : dpure own E op = none) (hd : dimp own next E op = some (d, own', next')) (h : Ws T (.region is :: cs) ⟨setDst E dst d, own', next', dfs⟩ Q) : Ws T (.region (⟨dst, op, none⟩ :: is) :: cs) ⟨E, own, next, dfs⟩ Q :=
  wr_1 (by simp only [plain1, dguard, dplain, hn, hd]) h
/-- The same, and a value. -/
theorem wr_it {t : Nat} (hn : dpure own E op = none) (hd : dimp own next E op = some (d, own', next')) (h : Ws T (.region is :: cs) ⟨E.put t (some d), own', next', dfs⟩ Q) : Ws T (.region (⟨some t, op, none⟩ :: is) :: cs) ⟨E, own, next, dfs⟩ Q := wr_i hn hd h
theorem wr_in (hn : dpure own E op = none) (hd : dimp own next E op = some (d, own', next')) (h : Ws T (.region is :: cs) ⟨E, own', next', dfs⟩ Q) : Ws T (.region (⟨none, op, none⟩ :: is) :: cs) ⟨E, own, next, dfs⟩ Q := wr_i hn hd h
theorem op_ws {is : List Ins} {s : St} (h : Ws T (.region is :: cs) s Q) : Op T is s (Qn (fun s1 => Ws T cs s1 Q) Q) := by
  obtain ⟨x, s2, hq, n, hn⟩ := h
  refine ⟨x, s2, hq, n, fun m hm => ?_⟩
  have h2 := hn (m + 1) (by omega)
  rw [dcode_succ] at h2
  exact h2
/-- Behind a call in a region. -/
def Qk (T : Tab) (dst : Option Nat) (is : List Ins) (cs : List IC) (E : Tr D) (dfs : List Dfr) (Q : DX → St → Prop) : Out → Tr Obj → Nat → Prop
  | .ok d, own, next => Ws T (.region is :: cs) ⟨setDst E dst d, own, next, dfs⟩ Q
  | .pan d, own, next => Q (.panic d) ⟨E, own, next, dfs⟩
theorem wr_call {dst : Option Nat} {f : Nat} {args : List Opd} {ds : List D} (he : evs E args = some ds) (h : Cp T f ds own next (Qk T dst is cs E dfs Q)) : Ws T (.region (⟨dst, .call f args, none⟩ :: is) :: cs) ⟨E, own, next, dfs⟩ Q := by
  refine ws_region (op_call he (Cp.mono h fun o a b ho => ?_))
  cases o with
  | ok d => exact op_ws ho
  | pan d => exact ho
theorem wr_callv {dst : Option Nat} {f : Opd} {gf : Nat} {first capt : List D} {args : List Opd} {ds : List D} (hf : ev E f = some (.fn (.func gf) first capt)) (he : evs E args = some ds) (h : Cp T gf (first ++ (ds ++ capt)) own next (Qk T dst is cs E dfs Q)) :
    Ws T (.region (⟨dst, .callv f args, none⟩ :: is) :: cs) ⟨E, own, next, dfs⟩ Q := by
  refine ws_region (op_callv hf he (Cp.mono h fun o a b ho => ?_))
  cases o with
  | ok d => exact op_ws ho
  | pan d => exact ho
/-- What lives on. -/
theorem ws_gen (L : List Nat) (h : ∀ E' : Tr D, (∀ t ∈ L, E'.get t = E.get t) → Ws T cs ⟨E', own, next, dfs⟩ Q) : Ws T cs ⟨E, own, next, dfs⟩ Q := h E fun _ _ => rfl
end
end
end Gv
