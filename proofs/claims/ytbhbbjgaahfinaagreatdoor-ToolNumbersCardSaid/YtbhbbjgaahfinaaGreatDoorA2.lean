/- Part of the proof of ToolNumbers by an evaluator that is proved sound: A2. No condition of its own. -/
import Derived.Laws.Append
import Derived.Test.YtbhbbjgaahfinaaGreatDoorA1
set_option linter.unusedVariables false
set_option linter.unusedSimpArgs false
/-! Slices' elements; append, copy. -/
namespace Gv
open Go
set_option linter.unusedVariables false

section
variable {C : Cx} {h : HS} {P : Program}

def sizeOK (size : Nat) : List D → Bool
  | [] => true
  | x :: _ => match x.cells? with | some cs => cs.length == size | none => false

theorem RE.resize {size size' : Nat} : ∀ {xs : List D} {cs : List Value}, RE C h size' xs cs → sizeOK size xs = true → RE C h size xs cs
  | [], cs, hr, _ => by simpa [RE] using hr
  | x :: xs, cs, hr, hk => by
    have hr0 := hr
    simp only [RE] at hr
    obtain ⟨u, rest, rfl, h1, h2, h3, h4⟩ := hr
    simp only [sizeOK] at hk
    split at hk
    · rename_i ds hds
      have := cells_size h3 hds
      have e : size' = size := by
        rw [← h1, this]; simpa using hk
      subst e; exact hr0
    · cases hk

def bytesD (s : List Nat) : List D := s.map fun (b : Nat) => .v (.int .u8 b)

/-- The elements of a slice, or of a string. -/
def delems (own : Tr Obj) (size : Nat) (x : D) : Option (List D) :=
  match x with
  | .sl _ xs => if sizeOK size xs then some xs else none
  | .own id off n _ =>
    match own.get id with
    | some (.arr _ size' xs) => if size' = size ∧ off + n ≤ xs.length then some ((xs.drop off).take n) else none
    | _ => none
  | .str s => if size = 1 then some (bytesD s) else none
  | _ => none

theorem RE_bytes : ∀ (s : List UInt8), RE C h 1 (bytesD (s.map UInt8.toNat)) (s.map fun b => Value.int .u8 b.toNat)
  | [] => by simp [bytesD, RE]
  | b :: s => by
    simp only [bytesD, List.map_cons, RE]
    refine ⟨.int .u8 b.toNat, _, rfl, rfl, by intro c hc; simp [Value.cells] at hc; subst hc; rfl, by simp [R], ?_⟩
    have := RE_bytes s
    simp only [bytesD] at this ⊢
    exact this

/-- What is read of a slice's elements. -/
structure Elems (C : Cx) (P : Program) (h : HS) (size : Nat) (u : Value) (ys : List D) (cs : List Value) : Prop where
  re : RE C h size ys cs
  len : ∀ w, (Builtin.lenOf u).run P w = Result.ok ys.length w
  first : ∀ n, n ≤ ys.length → ∀ w' : World, w'.heap = h.w.heap → (Builtin.firstCells size n u).run P w' = .ok (cs.take (n * size)).toArray w'
  bound : ys.length ≤ top

theorem firstCells_some {size n b off len cap : Nat} {cs : List Value} (hc : cellsAt h.w b off cs) (hn : n * size ≤ cs.length) :
    (Builtin.firstCells size n (.slice (some ⟨b, off, none⟩) len cap)).run P h.w = .ok (cs.take (n * size)).toArray h.w := by
  refine run_firstCells_some h.w size n ⟨b, off, none⟩ len cap (cs.take (n * size)) (by simp; omega) ?_
  intro j v hj
  rw [add_plain]
  have hj' := (List.getElem?_eq_some_iff.1 hj).1
  simp at hj'
  rw [hc j (by omega)]
  rw [List.getElem?_take, if_pos (by omega), List.getElem?_eq_getElem (by omega)] at hj
  exact hj

theorem firstCells_world {size n b off len cap : Nat} {cs : List Value} {w : World} (hc : cellsAt w b off cs) (hn : n * size ≤ cs.length) :
    ∀ w' : World, w'.heap = w.heap → (Builtin.firstCells size n (.slice (some ⟨b, off, none⟩) len cap)).run P w' = .ok (cs.take (n * size)).toArray w' := by
  intro w' hw'
  have hc' : cellsAt w' b off cs := hc.of_heap (by rw [hw'])
  exact firstCells_some (h := ⟨.nil, 0, fun _ => (0, 0), w'⟩) hc' hn

theorem delems_sound (ok : OK C h) {size : Nat} {x : D} {u : Value} (hr : R C h x u) {ys : List D} (hd : delems h.own size x = some ys) : ∃ cs, Elems C P h size u ys cs := by
  cases x with
  | sl hd' xs =>
    simp only [delems] at hd
    split at hd
    · rename_i hk
      simp only [Option.some.injEq] at hd
      subst hd
      simp only [R] at hr
      rcases hr with ⟨rfl, rfl, _⟩ | ⟨_, b, off, cap, size', cs, rfl, h3, h4, h5, h6, h7, h8⟩
      · refine ⟨[], by simp [RE], fun w => by simp [Builtin.lenOf], fun n hn w' hw' => ?_, by simp⟩
        simp [Builtin.firstCells]
      · have h8' := h8.resize hk
        have hlen := h8'.length
        refine ⟨cs, h8', fun w => by simp [Builtin.lenOf], fun n hn => firstCells_world h7 ?_, h5⟩
        rw [hlen]; exact Nat.mul_le_mul_right _ hn
    · cases hd
  | own id off n cap =>
    simp only [delems] at hd
    split at hd
    · rename_i ty' size' xs ho
      split at hd
      · rename_i hk
        obtain ⟨rfl, hk⟩ := hk
        simp only [Option.some.injEq] at hd
        subst hd
        simp only [R] at hr
        obtain ⟨_, _, h2, h3⟩ := hr
        obtain ⟨c', cs', el, f, rfl, h5, h6, h7, h8⟩ := h3 _ _ _ ho
        obtain ⟨_, _, _, c, h9, pre, cs, rest, h10, h11, h12⟩ := ok.id id _ ho
        have hlen := h12.length
        have hl : ((xs.drop off).take n).length = n := by simp; omega
        have hre := (h12.drop off).take n
        have hcs : cellsAt h.w (h.M id).1 ((h.M id).2 + off * size') ((cs.drop (off * size')).take (n * size')) := by
          intro k hk'
          have hk2 : k < n * size' ∧ k < cs.length - off * size' := by simp at hk'; omega
          simp only [World.cell?, h9, Option.isSome_none, Bool.false_eq_true, if_false]
          rw [← Array.getElem?_toList, h10, ← h11, Nat.add_assoc, List.getElem?_append_right (by omega)]
          rw [show pre.length + (off * size' + k) - pre.length = off * size' + k by omega, List.getElem?_append_left (by omega)]
          simp [List.getElem?_eq_getElem (show off * size' + k < cs.length by omega)]
        refine ⟨_, hre, fun w => by simp [Builtin.lenOf, hl], fun m hm => firstCells_world hcs ?_, by rw [hl]; exact h2⟩
        rw [hl] at hm
        have h1 := Nat.mul_le_mul_right size' hm
        have h2 : (off + n) * size' ≤ cs.length := by rw [hlen]; exact Nat.mul_le_mul_right _ hk
        rw [Nat.add_mul] at h2
        simp; omega
      · cases hd
    · cases hd
  | str s =>
    simp only [delems] at hd
    split at hd
    · rename_i hk
      subst hk
      simp only [Option.some.injEq] at hd
      subst hd
      simp only [R] at hr
      obtain ⟨b, rfl, rfl, h2⟩ := hr
      refine ⟨_, RE_bytes _, fun w => by simp [Builtin.lenOf, bytesD], fun n hn w' hw' => ?_, by simpa [bytesD] using h2⟩
      simp [Builtin.firstCells]
      apply Array.ext'
      simp
    · cases hd
  | _ => simp [delems] at hd

/-- 'append(s, x..)'. -/
def dappend (own : Tr Obj) (next ty size bytes : Nat) (s x : D) : Option (D × Tr Obj × Nat) :=
  match delems own size x with
  | none => none
  | some ys =>
    match s with
    | .sl hd xs =>
      if ys.isEmpty then some (s, own, next)
      else if (hd == .nil || hd.exact) && sizeOK size xs && decide ((xs.length + ys.length) * bytes ≤ 2 ^ 45) && decide (xs.length + ys.length ≤ 2 ^ 45) then
        some (.own next 0 (xs.length + ys.length) none, own.put next (some (.arr ty size (xs ++ ys))), next + 1)
      else none
    | .own id off n cap =>
      match own.get id with
      | some (.arr ty' size' xs) =>
        if (ty' = ty ∧ size' = size) ∧ off + n = xs.length ∧ (n + ys.length) * bytes ≤ 2 ^ 45 ∧ n + ys.length ≤ 2 ^ 45 then
          if ys.isEmpty then some (s, own, next)
          else match cap with
            | none => some (.own next 0 (n + ys.length) none, (own.put id none).put next (some (.arr ty size (xs.drop off ++ ys))), next + 1)
            | some c =>
              if n + ys.length ≤ c then some (.own next 0 (n + ys.length) cap, (own.put id none).put next (some (.arr ty size (xs.drop off ++ ys))), next + 1)
              else some (.own next 0 (n + ys.length) none, own.put next (some (.arr ty size (xs.drop off ++ ys))), next + 1)
        else none
      | _ => none
    | _ => none

def HS.drew (h : HS) : HS := { h with w := { h.w with drawn := h.w.drawn + 1 } }
theorem Ext.drew (h : HS) : Ext h h.drew where
  size := Nat.le_refl _
  os := rfl
  tape := rfl
  output := rfl
  old := fun _ _ _ => rfl
  next := Nat.le_refl _
  M := fun _ _ => rfl
  live := fun i o' _ ho => ⟨o', ho, o'.sim_refl⟩
  newb := fun i o' ho => .inl ⟨i, o', ho, rfl⟩
  cells := fun b c e f hc => ⟨c, f, hc, rfl⟩
theorem OK.drew (ok : OK C h) : OK C h.drew where
  id := fun i o ho => by
    obtain ⟨h1, h2, h3, h4⟩ := ok.id i o ho
    exact ⟨h1, h2, h3, h4.keep (Ext.drew h) rfl rfl⟩
  inj := ok.inj
  X := ok.X
  dvd := ok.dvd

/-- The second operand's type is no integer. -/
def AppTy (P : Program) (sT xT e : TypeId) : Prop := P.underlying sT = some (.slice e) ∧ ((∃ e', P.underlying xT = some (.slice e')) ∨ P.underlying xT = some .string)

theorem run_append_fit {sT xT ty e : TypeId} (ht : AppTy P sT xT e) {size bytes : Nat} {z : D} (he : ElemOK P e size bytes z) {w : World} {base : Option Addr} {sLen sCap n : Nat} {x : Value} {new : Array Value}
    (hl : (Builtin.lenOf x).run P w = .ok n w) (hf : (Builtin.firstCells size n x).run P w = .ok new w) (hfit : sLen + n ≤ sCap) :
    (Builtin.append_ #[sT, xT] ty #[.slice base sLen sCap, x]).run P w = (match base with | some a => (storeCells (a.add (sLen * size)) new.toList).run P w | none => .ok () w).andThen fun _ w' => .ok (.slice base (sLen + n) sCap) w' := by
  obtain ⟨ht1, ⟨e', ht2⟩ | ht2⟩ := ht
  all_goals
    have hu := run_underlying ht1 w
    have hu2 := run_underlying ht2 w
    simp only [Builtin.append_, List.getElem?_toArray, List.getElem?_cons_zero, List.getElem?_cons_succ, Sem.run_bind, hu, hu2, Result.andThen_ok, he.sz, Sem.run_pure, Bool.false_eq_true, if_false, hl, hfit, if_true, Bool.not_false, hf]
    cases base <;> simp

theorem run_append_grow' {sT xT ty e : TypeId} (ht : AppTy P sT xT e) {size bytes : Nat} {z : D} {zu : Value} (he : ElemOK P e size bytes z) (hz : ∀ w, (zeroValue e).run P w = Result.ok zu w) {w : World} {base : Option Addr} {sLen sCap n : Nat} {x : Value} {old new : Array Value}
    (hl : ∀ w, (Builtin.lenOf x).run P w = .ok n w) (hfo : ∀ w', w'.heap = w.heap → (Builtin.firstCells size sLen (.slice base sLen sCap)).run P w' = .ok old w') (hf : ∀ w', w'.heap = w.heap → (Builtin.firstCells size n x).run P w' = .ok new w') (hfit : ¬ sLen + n ≤ sCap)
    (hb : (sLen + n) * bytes ≤ 2 ^ 45) (hb2 : sLen + n ≤ 2 ^ 45) :
    ∃ cap, sLen + n ≤ cap ∧ (Builtin.append_ #[sT, xT] ty #[.slice base sLen sCap, x]).run P w =
      .ok (.slice (some ⟨w.heap.size, 0, none⟩) (sLen + n) cap) { w with drawn := w.drawn + 1, heap := w.heap.push (.cells (old ++ new ++ Builtin.zeroCells zu.cells (cap - (sLen + n))) e (0, 0)) } := by
  obtain ⟨i, hi1, hi2, hi3, hi4⟩ := he.ti
  refine ⟨(Question.appendCap (sLen + n) sCap e).cut (w.tape w.drawn (.appendCap (sLen + n) sCap e)), by simp only [Question.cut]; omega, ?_⟩
  have hgs : ¬ (Builtin.nextslicecap (sLen + n) sCap * bytes > 2 ^ 48) := by
    have := growslice_fits (need := sLen + n) (old := sCap) (bytes := bytes) (by omega) (by omega)
    omega
  have hmx : ¬ (((sLen + n : Nat) : Int) > IntKind.i64.max ∧ (False ∨ bytes = 0)) := by
    rintro ⟨h1, _⟩
    have : IntKind.i64.max = 2 ^ 63 - 1 := rfl
    rw [this] at h1; omega
  have hfo' := hfo { w with drawn := w.drawn + 1 } rfl
  have hf' := hf { w with drawn := w.drawn + 1 } rfl
  obtain ⟨ht1, ⟨e', ht2⟩ | ht2⟩ := ht
  all_goals
    have hu := run_underlying ht1 w
    have hu2 := run_underlying ht2 w
    simp only [Builtin.append_, List.getElem?_toArray, List.getElem?_cons_zero, List.getElem?_cons_succ, Sem.run_bind, hu, hu2, Result.andThen_ok, he.sz, Sem.run_pure, Bool.false_eq_true, if_false, hl, hfit, Bool.not_false, if_true,
      hi1, hi2]
    rw [if_neg hmx]
    simp only [Sem.run_bind, hi1, hi2, Result.andThen_ok]
    rw [if_neg hgs]
    simp only [Sem.run_bind, hi1, hi2, Result.andThen_ok, run_choose, Question.forced, run_askRoom, hfo', hf', hz, newRow, run_newObj, Bool.false_eq_true, if_false, Sem.run_pure]

theorem RE_zeros {size : Nat} (zu : Value) (hz : zu.cells.size = size) (n : Nat) : (Builtin.zeroCells zu.cells n).size = n * size := by simp [Builtin.zeroCells, hz]

theorem Elems.all {size : Nat} {u : Value} {ys : List D} {cs : List Value} (e : Elems C P h size u ys cs) :
    ∀ w' : World, w'.heap = h.w.heap → (Builtin.firstCells size ys.length u).run P w' = .ok cs.toArray w' := by
  intro w' hw'
  have := e.first ys.length (Nat.le_refl _) w' hw'
  rwa [List.take_of_length_le (by rw [e.re.length]; exact Nat.le_refl _)] at this

theorem Elems.nil_cs {size : Nat} {u : Value} {cs : List Value} (e : Elems C P h size u [] cs) : cs = [] := by
  have := e.re; simpa [RE] using this

/-- The heap behind an append that takes new memory. -/
def HS.grow (h : HS) (g : Go.Obj) (o : Obj) : HS := h.drew.alloc g o

theorem grow_sound (ok : OK C h) {size bytes : Nat} {z : D} {e : TypeId} (he : ElemOK P e size bytes z) {zu : Value} (hz3 : zu.cells.size = size) {xs : List D} {cs : List Value} (hre : RE C h size xs cs) (cap : Nat) (hcap : xs.length ≤ cap) (hb : xs.length ≤ top) :
    let h' := h.grow (.cells (cs.toArray ++ Builtin.zeroCells zu.cells (cap - xs.length)) e (0, 0)) (.arr e size xs)
    R C h' (.own h.next 0 xs.length none) (.slice (some ⟨h.w.heap.size, 0, none⟩) xs.length cap) ∧ Ext h h' ∧ OK C h' := by
  intro h'
  have hext : Ext h h' := (Ext.drew h).trans (Ext.alloc (OK.drew ok) _ _)
  refine ⟨?_, hext, OK.alloc (OK.drew ok) ?_⟩
  · simp only [R]
    refine ⟨by simp [h', HS.grow, HS.alloc, HS.drew], rfl, hb, fun ty' size' xs' ho => ?_⟩
    simp only [h', HS.grow, HS.alloc, HS.drew, Tr.get_put_eq, Option.some.injEq, Obj.arr.injEq] at ho
    obtain ⟨rfl, rfl, rfl⟩ := ho
    have hM : h'.M h.next = (h.w.heap.size, 0) := alloc_M_new (h := h.drew)
    rw [hM]
    refine ⟨cap, _, e, (0, 0), by simp, hcap, by simp, alloc_new (h := h.drew), ?_⟩
    have := hre.length
    simp [RE_zeros zu hz3, this]
    rw [← Nat.add_mul]; exact Nat.mul_le_mul_right _ (by omega)
  · have hM : h'.M h.next = (h.w.heap.size, 0) := alloc_M_new (h := h.drew)
    refine ⟨_, by rw [show (h.drew.alloc _ _).M h.drew.next = (h.w.heap.size, 0) from alloc_M_new (h := h.drew)]; exact alloc_new (h := h.drew), [], cs, (Builtin.zeroCells zu.cells (cap - xs.length)).toList, by simp, ?_, hre.ext hext⟩
    rw [show (h.drew.alloc _ _).M h.drew.next = (h.w.heap.size, 0) from alloc_M_new (h := h.drew)]; rfl

theorem dappend_sound (ok : OK C h) {sT xT ty e : TypeId} (ht : AppTy P sT xT e) {size bytes : Nat} {z : D} (he : ElemOK P e size bytes z) {s x : D} {us ux : Value} (hs : R C h s us) (hx : R C h x ux)
    {d : D} {own' : Tr Obj} {next' : Nat} (hd : dappend h.own h.next e size bytes s x = some (d, own', next')) : Yields C P h (Builtin.append_ #[sT, xT] ty #[us, ux]) d own' next' := by
  unfold dappend at hd
  split at hd
  · cases hd
  rename_i ys hys
  obtain ⟨cy, hel⟩ := delems_sound (P := P) ok hx hys
  obtain ⟨zu, hz1, hz2, hz3, hz4⟩ := he.zero
  split at hd
  · -- a frozen slice
    rename_i hd' xs
    have hs0 := hs
    simp only [R] at hs
    split at hd
    · rename_i hemp
      simp only [Option.some.injEq, Prod.mk.injEq] at hd
      obtain ⟨rfl, rfl, rfl⟩ := hd
      have hy0 : ys = [] := by simpa using hemp
      subst hy0
      have hc0 := hel.nil_cs
      subst hc0
      have hl := hel.len
      have hf := hel.all h.w rfl
      rcases hs with ⟨rfl, rfl, _⟩ | ⟨_, b, off, cap, size', cs, rfl, h3, _⟩
      · have := run_append_fit (ty := ty) ht he (base := none) (sLen := 0) (sCap := 0) (hl h.w) hf (by simp)
        exact Yields.same ok (by simpa using this) hs0
      · have := run_append_fit (ty := ty) ht he (base := some ⟨b, off, none⟩) (sLen := xs.length) (sCap := cap) (hl h.w) hf (by simpa using h3)
        exact Yields.same ok (by simpa [storeCells] using this) hs0
    · rename_i hemp
      split at hd
      · rename_i hcond
        simp only [Bool.and_eq_true, decide_eq_true_eq, Bool.or_eq_true, beq_iff_eq] at hcond
        obtain ⟨⟨⟨hc1, hc2⟩, hc3⟩, hc4⟩ := hcond
        simp only [Option.some.injEq, Prod.mk.injEq] at hd
        obtain ⟨rfl, rfl, rfl⟩ := hd
        have hyl : 0 < ys.length := by
          rcases ys with _ | ⟨a, b⟩
          · simp at hemp
          · simp
        -- where it lies
        obtain ⟨base, sCap, cx, hus, hcap, hre, hfo⟩ : ∃ base sCap cx, us = .slice base xs.length sCap ∧ sCap = xs.length ∧ RE C h size xs cx ∧
            ∀ w' : World, w'.heap = h.w.heap → (Builtin.firstCells size xs.length (.slice base xs.length sCap)).run P w' = .ok cx.toArray w' := by
          rcases hs with ⟨rfl, rfl, _⟩ | ⟨hne, b, off, cap, size', cs, rfl, h3, h4, h5, h6, h7, h8⟩
          · exact ⟨none, 0, [], rfl, rfl, by simp [RE], fun w' _ => by simp [Builtin.firstCells]⟩
          · have hfull : hd'.exact = true := hc1.resolve_left hne
            have hre := h8.resize hc2
            refine ⟨_, cap, cs, rfl, h4 hfull, hre, fun w' hw' => ?_⟩
            have := firstCells_world (P := P) (len := xs.length) (cap := cap) (n := xs.length) (size := size) h7 (by rw [hre.length]; exact Nat.le_refl _) w' hw'
            rwa [List.take_of_length_le (by rw [hre.length]; exact Nat.le_refl _)] at this
        subst hus
        subst hcap
        obtain ⟨cap, hle, hrun⟩ := run_append_grow' (ty := ty) ht he hz1 (w := h.w) hel.len hfo hel.all (by omega) hc3 hc4
        have hre2 := RE.append hre hel.re
        have hg := grow_sound (P := P) ok he hz3 hre2 cap (by simpa using hle) (by simp; unfold top; omega)
        refine ⟨_, _, ?_, by simpa using hg.1, rfl, rfl, hg.2.1, hg.2.2⟩
        rw [hrun]
        simp [HS.grow, HS.alloc, HS.drew]
        exact ⟨rfl, rfl, rfl⟩
      · cases hd
  · -- an array of the call's own
    rename_i id off n cap
    split at hd
    · rename_i ty' size' xs ho
      split at hd
      · rename_i hcond
        obtain ⟨⟨hty, rfl⟩, hoff, hc3, hc4⟩ := hcond
        have hty := hty.symm
        subst hty
        have hs0 := hs
        have hels : delems h.own size' (.own id off n cap) = some (xs.drop off) := by
          simp only [delems, ho]
          rw [if_pos ⟨trivial, by omega⟩, List.take_of_length_le (by simp; omega)]
        obtain ⟨cx, hex⟩ := delems_sound (P := P) ok hs hels
        simp only [R] at hs
        obtain ⟨_, _, htop, hs3⟩ := hs
        obtain ⟨c', cc, el, f, rfl, hnc, hcap, hblk, hfit⟩ := hs3 _ _ _ ho
        have hdl : (xs.drop off).length = n := by simp; omega
        have hexf := hex.all
        rw [hdl] at hexf
        have hpos := he.pos
        split at hd
        · rename_i hemp
          simp only [Option.some.injEq, Prod.mk.injEq] at hd
          obtain ⟨rfl, rfl, rfl⟩ := hd
          have hy0 : ys = [] := by simpa using hemp
          subst hy0
          have hc0 := hel.nil_cs
          subst hc0
          have := run_append_fit (ty := ty) ht he (base := some ⟨(h.M id).1, (h.M id).2 + off * size', none⟩) (sLen := n) (sCap := c') (hel.len h.w) (hel.all h.w rfl) (by simpa using hnc)
          exact Yields.same ok (by simpa [storeCells] using this) hs0
        · rename_i hemp
          have hyl : 0 < ys.length := by
            rcases ys with _ | ⟨a, b⟩
            · simp at hemp
            · simp
          have hre2 := RE.append hex.re hel.re
          -- grown: new memory
          have grown : ¬ n + ys.length ≤ c' → ∃ capn, n + ys.length ≤ capn ∧
              (Builtin.append_ #[sT, xT] ty #[.slice (some ⟨(h.M id).1, (h.M id).2 + off * size', none⟩) n c', ux]).run P h.w =
              .ok (.slice (some ⟨h.w.heap.size, 0, none⟩) (n + ys.length) capn) { h.w with drawn := h.w.drawn + 1, heap := h.w.heap.push (.cells (cx.toArray ++ cy.toArray ++ Builtin.zeroCells zu.cells (capn - (n + ys.length))) e (0, 0)) } :=
            fun hn => run_append_grow' (ty := ty) ht he hz1 (w := h.w) hel.len hexf hel.all hn hc3 hc4
          -- in place
          have placed : n + ys.length ≤ c' → ∃ h' : HS, (Builtin.append_ #[sT, xT] ty #[.slice (some ⟨(h.M id).1, (h.M id).2 + off * size', none⟩) n c', ux]).run P h.w =
              .ok (.slice (some ⟨(h.M id).1, (h.M id).2 + off * size', none⟩) (n + ys.length) c') h'.w ∧
              R C h' (.own h.next 0 (n + ys.length) cap) (.slice (some ⟨(h.M id).1, (h.M id).2 + off * size', none⟩) (n + ys.length) c') ∧
              h'.own = (h.own.put id none).put h.next (some (.arr e size' (xs.drop off ++ ys))) ∧ h'.next = h.next + 1 ∧ Ext h h' ∧ OK C h' := by
            intro hn
            obtain ⟨_, _, _, c, h9, pre, cs, rest, h10, h11, h12⟩ := ok.id id _ ho
            rw [hblk] at h9
            simp only [Option.some.injEq, Go.Obj.cells.injEq] at h9
            obtain ⟨rfl, rfl, rfl⟩ := h9
            have hlen := h12.length
            have hcyl := hel.re.length
            have hcsz : cc.size = pre.length + (cs.length + rest.length) := by rw [← Array.length_toList, h10]; simp
            have hxl : xs.length = off + n := hoff.symm
            have hcl : cs.length = off * size' + n * size' := by rw [hlen, hxl, Nat.add_mul]
            have hroom : off * size' + n * size' + ys.length * size' ≤ off * size' + c' * size' := by
              have := Nat.mul_le_mul_right size' hn
              rw [Nat.add_mul] at this; omega
            rw [Nat.add_mul] at hfit
            have hst := run_storeCells_at P (h.M id).1 ((h.M id).2 + off * size' + n * size') el cy 0 cc h.w hblk (by omega) hel.re.one
            rw [setRow_eq hblk] at hst
            have hrun := run_append_fit (ty := ty) ht he (base := some ⟨(h.M id).1, (h.M id).2 + off * size', none⟩) (sLen := n) (sCap := c') (hel.len h.w) (hel.all h.w rfl) hn
            simp only [add_plain, hst, Result.andThen_ok] at hrun
            refine ⟨h.move id ((h.M id).2 + off * size') (.cells (cc.toList.take ((h.M id).2 + off * size' + n * size' + 0) ++ cy ++ cc.toList.drop ((h.M id).2 + off * size' + n * size' + 0 + cy.length)).toArray el (0, 0)) (.arr el size' (xs.drop off ++ ys)), hrun, ?_, rfl, rfl, ?_⟩
            · simp only [R]
              refine ⟨by simp [HS.move], rfl, by unfold top; omega, fun ty'' size'' xs' ho' => ?_⟩
              simp only [HS.move, Tr.get_put_eq, Option.some.injEq, Obj.arr.injEq] at ho'
              obtain ⟨rfl, rfl, rfl⟩ := ho'
              rw [move_M_new]
              refine ⟨c', _, el, (0, 0), by simp, hn, hcap, move_self (lt_of_heap hblk), ?_⟩
              simp only [List.size_toArray, List.length_append, List.length_take, List.length_drop, Array.length_toList]
              rw [Nat.zero_add]; omega
            · have hext : Ext h (h.move id ((h.M id).2 + off * size') (.cells (cc.toList.take ((h.M id).2 + off * size' + n * size' + 0) ++ cy ++ cc.toList.drop ((h.M id).2 + off * size' + n * size' + 0 + cy.length)).toArray el (0, 0)) (.arr el size' (xs.drop off ++ ys))) := by
                refine Ext.move ok ho _ _ _ ?_
                intro c2 e2 f2 hc2
                rw [hblk] at hc2
                simp only [Option.some.injEq, Go.Obj.cells.injEq] at hc2
                obtain ⟨rfl, rfl, rfl⟩ := hc2
                refine ⟨_, _, rfl, ?_⟩
                simp only [List.size_toArray, List.length_append, List.length_take, List.length_drop, Array.length_toList]
                omega
              refine ⟨hext, OK.move ok ho hext ?_ (fun ty'' size'' xs'' he => by
                cases he
                have := ok.dvd _ _ _ _ ho
                rw [Nat.add_mod, this, Nat.mul_mod_left]; simp)⟩
              refine ⟨_, by rw [move_M_new]; exact move_self (lt_of_heap hblk), pre ++ cs.take (off * size'), cs.drop (off * size') ++ cy, rest.drop cy.length, ?_, ?_, ?_⟩
              · rw [h10]
                simp only [Nat.add_zero]
                have e1 : (pre ++ (cs ++ rest)).take ((h.M id).2 + off * size' + n * size') = pre ++ cs := by
                  rw [← List.append_assoc]; exact take_app _ _ _ (by simp; omega)
                have e2 : (pre ++ (cs ++ rest)).drop ((h.M id).2 + off * size' + n * size' + cy.length) = rest.drop cy.length := by
                  rw [← List.append_assoc, List.drop_append]
                  rw [List.drop_of_length_le (by simp; omega)]
                  simp only [List.nil_append, List.length_append]
                  congr 1; omega
                rw [e1, e2]
                simp only [List.append_assoc]
                rw [← List.append_assoc (cs.take _), List.take_append_drop]
              · rw [move_M_new]; simp [h11]; omega
              · exact RE.append ((h12.drop off).ext hext) (hel.re.ext hext)
          have newR : ∀ hh : HS, OK C hh → Ext h hh → hh.next = h.next → hh.w = h.w → ∀ capn, n + ys.length ≤ capn →
              ∃ h', h'.w = { h.w with drawn := h.w.drawn + 1, heap := h.w.heap.push (.cells (cx.toArray ++ cy.toArray ++ Builtin.zeroCells zu.cells (capn - (n + ys.length))) e (0, 0)) } ∧
                R C h' (.own h.next 0 (n + ys.length) none) (.slice (some ⟨h.w.heap.size, 0, none⟩) (n + ys.length) capn) ∧ h'.own = hh.own.put h.next (some (.arr e size' (xs.drop off ++ ys))) ∧ h'.next = h.next + 1 ∧ Ext h h' ∧ OK C h' := by
            intro hh ok' ext' hnx hw capn hcn
            have hg := grow_sound (P := P) ok' he hz3 (hre2.ext ext') capn (by simp; omega) (by simp; unfold top; omega)
            have hll : (xs.drop off ++ ys).length = n + ys.length := by simp; omega
            simp only [hll, hnx, hw] at hg
            refine ⟨_, ?_, hg.1, ?_, ?_, ext'.trans hg.2.1, hg.2.2⟩
            · simp [HS.grow, HS.alloc, HS.drew, hw]
              exact ⟨rfl, rfl, rfl⟩
            · simp [HS.grow, HS.alloc, HS.drew, hnx]
            · simp [HS.grow, HS.alloc, HS.drew, hnx]
          split at hd
          · -- the capacity is not known
            simp only [Option.some.injEq, Prod.mk.injEq] at hd
            obtain ⟨rfl, rfl, rfl⟩ := hd
            by_cases hn : n + ys.length ≤ c'
            · obtain ⟨h', p1, p2, p3, p4, p5, p6⟩ := placed hn
              exact ⟨_, h', p1, p2, p3, p4, p5, p6⟩
            · obtain ⟨capn, hcn, hrun⟩ := grown hn
              obtain ⟨h', q0, q1, q2, q3, q4, q5⟩ := newR (h.kill id) (OK.kill ok id) (Ext.kill h id) rfl rfl capn hcn
              exact ⟨_, h', by rw [hrun, q0], q1, q2, q3, q4, q5⟩
          · rename_i c
            have hcc : c' = c := hcap c rfl
            subst hcc
            split at hd
            · rename_i hn
              simp only [Option.some.injEq, Prod.mk.injEq] at hd
              obtain ⟨rfl, rfl, rfl⟩ := hd
              obtain ⟨h', p1, p2, p3, p4, p5, p6⟩ := placed hn
              exact ⟨_, h', p1, p2, p3, p4, p5, p6⟩
            · rename_i hn
              simp only [Option.some.injEq, Prod.mk.injEq] at hd
              obtain ⟨rfl, rfl, rfl⟩ := hd
              obtain ⟨capn, hcn, hrun⟩ := grown hn
              obtain ⟨h', q0, q1, q2, q3, q4, q5⟩ := newR h ok (Ext.refl h) rfl rfl capn hcn
              exact ⟨_, h', by rw [hrun, q0], q1, q2, q3, q4, q5⟩
      · cases hd
    · cases hd
  · cases hd
end
end Gv
/-! Operations that look, and make no memory. -/
namespace Gv
open Go
set_option linter.unusedVariables false

section
variable {C : Cx} {h : HS} {P : Program}

/-! ### len, slices, indexes -/
def dlen (x : D) : Option D :=
  match x with
  | .sl _ xs => some (.v (.int .i64 xs.length))
  | .own _ _ n _ => some (.v (.int .i64 n))
  | .str s => some (.v (.int .i64 s.length))
  | _ => none

def live (own : Tr Obj) (id : Nat) : Option (Nat × List D) :=
  match own.get id with
  | some (.arr _ size xs) => some (size, xs)
  | _ => none

/-- What is sliced. -/
def isSlice (P : Program) (t : TypeId) : Prop := ∃ e, P.underlying t = some (.slice e)

theorem len_slice {t : TypeId} {ty : TypeId} (ht : isSlice P t) {base : Option Addr} {n c : Nat} {w : World} : (Builtin.len_ #[t] ty #[.slice base n c]).run P w = .ok (.int .i64 n) w := by
  obtain ⟨e, he⟩ := ht
  simp [Builtin.len_, run_underlying he, goInt]
theorem len_string {t : TypeId} {ty : TypeId} (ht : P.underlying t = some .string) {s : ByteArray} {w : World} : (Builtin.len_ #[t] ty #[.string s]).run P w = .ok (.int .i64 s.size) w := by
  simp [Builtin.len_, run_underlying ht, goInt]

theorem dlen_sound (ok : OK C h) {t ty : TypeId} {x d : D} {u : Value} (hr : R C h x u) (hd : dlen x = some d)
    (ht : match x with | .sl .. => isSlice P t | .own id _ _ _ => isSlice P t ∧ ∃ ty s xs, h.own.get id = some (.arr ty s xs) | .str _ => P.underlying t = some .string | _ => False) :
    Yields C P h (Builtin.len_ #[t] ty #[u]) d h.own h.next := by
  cases x with
  | sl hd' xs =>
    simp only [dlen, Option.some.injEq] at hd
    subst hd
    simp only [R] at hr
    rcases hr with ⟨rfl, rfl, _⟩ | ⟨_, b, off, cap, size', cs, rfl, _⟩
    · exact Yields.same ok (len_slice ht) (by simp [R])
    · exact Yields.same ok (len_slice ht) (by simp [R])
  | own id off n cap =>
    simp only [dlen, Option.some.injEq] at hd
    subst hd
    obtain ⟨ht, tyo, s, xs, ho⟩ := ht
    simp only [R] at hr
    obtain ⟨_, _, _, hr⟩ := hr
    obtain ⟨c', cs, e, f, rfl, _⟩ := hr _ _ _ ho
    exact Yields.same ok (len_slice ht) (by simp [R])
  | str s =>
    simp only [dlen, Option.some.injEq] at hd
    subst hd
    simp only [R] at hr
    obtain ⟨b, rfl, rfl, _⟩ := hr
    refine Yields.same ok (len_string ht) ?_
    simp [R]
  | _ => simp [dlen] at hd

def natOf (d : D) : Option Nat :=
  match d with
  | .v (.int _ n) => if 0 ≤ n then some n.toNat else none
  | _ => none
theorem natOf_sound {d : D} {u : Value} {n : Nat} (hr : R C h d u) (hn : natOf d = some n) : ∃ k, u = .int k n := by
  unfold natOf at hn
  split at hn
  · rename_i k m
    simp only [R] at hr
    subst hr
    split at hn
    · rename_i h0
      simp only [Option.some.injEq] at hn
      exact ⟨k, by rw [← hn, Int.toNat_of_nonneg h0]⟩
    · cases hn
  · cases hn

/-- '&x[i]'. -/
def diadr (own : Tr Obj) (k : XK) (x i : D) : Option D :=
  match natOf i with
  | none => none
  | some i =>
    match k with
    | .sl size =>
      match x with
      | .sl _ xs =>
        match xs[i]? with
        | some y => match y.cells? with | some cs => if cs.length = size then some (.ep cs) else none | none => none
        | none => none
      | .own id off n _ =>
        match live own id with
        | some (size', xs) => if size' = size ∧ i < n ∧ off + n ≤ xs.length then some (.ptr id (off + i) 0) else none
        | none => none
      | _ => none
    | .arr n size =>
      match x with
      | .ptr id j off => match live own id with | some _ => if i < n then some (.ptr id j (off + i * size)) else none | none => none
      | .ep cs => if i < n then some (.ep (cs.drop (i * size))) else none
      | _ => none

theorem live_get {own : Tr Obj} {id size : Nat} {xs : List D} (hlv : live own id = some (size, xs)) : ∃ ty, own.get id = some (.arr ty size xs) := by
  unfold live at hlv
  split at hlv
  · simp only [Option.some.injEq, Prod.mk.injEq] at hlv; obtain ⟨rfl, rfl⟩ := hlv; exact ⟨_, ‹_›⟩
  · cases hlv

theorem diadr_sound (ok : OK C h) {t : TypeId} {k : XK} {x i d : D} {ux ui : Value} (hx : R C h x ux) (hi : R C h i ui) (hd : diadr h.own k x i = some d)
    (ht : match k with | .sl size => ∃ e, P.underlying t = some (.slice e) ∧ (∀ w, (Go.sizeOf e).run P w = Result.ok size w) | .arr n size => ∃ e, P.underlying t = some (.array n e) ∧ (∀ w, (Go.sizeOf e).run P w = Result.ok size w)) :
    Yields C P h (Instr.indexAt t ux ui) d h.own h.next := by
  cases hn : natOf i with
  | none => simp [diadr, hn] at hd
  | some i =>
  obtain ⟨ki, rfl⟩ := natOf_sound hi hn
  cases k with
  | sl size =>
    obtain ⟨e, hu, hsz⟩ := ht
    cases x with
    | sl hd' xs =>
      simp only [diadr, hn] at hd
      cases hy : xs[i]? with
      | none => simp [hy] at hd
      | some y =>
      simp only [hy] at hd
      cases hcs : y.cells? with
      | none => simp [hcs] at hd
      | some cs =>
      simp only [hcs] at hd
      split at hd
      · rename_i hcl
        simp only [Option.some.injEq] at hd
        subst hd
        have hix : i < xs.length := by
          rcases Nat.lt_or_ge i xs.length with hh | hh
          · exact hh
          · rw [List.getElem?_eq_none hh] at hy; cases hy
        simp only [R] at hx
        rcases hx with ⟨rfl, rfl, _⟩ | ⟨_, b, off, cap, size', cs', rfl, h3, h4, h5, h6, h7, h8⟩
        · simp at hix
        obtain ⟨v, r1, r2, r3, r4, r5, r6⟩ := h8.at i hy
        have hs := cells_sound r1 hcs
        have hvl := hs.length
        have hsz' : size' = size := by rw [← r2, ← hcl, ← hvl]; simp
        subst hsz'
        have hle : i * size' ≤ cs'.length := by rw [h8.length]; exact Nat.mul_le_mul_right _ (Nat.le_of_lt hix)
        refine Yields.same ok (v := .pointer (some ⟨b, off + i * size', none⟩)) ?_ ?_
        · have : (0 : Int) ≤ (i : Int) ∧ (i : Int) < (xs.length : Int) := by omega
          simp [Instr.indexAt, asIntOf, run_underlying hu, this, hsz, add_plain, hix]
        · simp only [R]
          refine ⟨b, off + i * size', v.cells.toList, rfl, h6 (by intro e; subst e; simp at hix), ?_, hs⟩
          intro k hk
          have hk2 : i * size' + k < cs'.length := by
            rw [r4]; simp only [List.length_append, List.length_take]; omega
          rw [Nat.add_assoc, h7 (i * size' + k) hk2]
          congr 1
          have : cs'[i * size' + k]? = v.cells.toList[k]? := by
            rw [r4, List.getElem?_append_right (by simp; omega)]
            simp only [List.length_take, Nat.min_eq_left hle]
            rw [show i * size' + k - i * size' = k by omega, List.getElem?_append_left hk]
          rw [List.getElem?_eq_getElem hk2, List.getElem?_eq_getElem hk] at this
          simpa using this
      · cases hd
    | own id off n cap =>
      simp only [diadr, hn] at hd
      cases hlv : live h.own id with
      | none => simp [hlv] at hd
      | some sx =>
      obtain ⟨size', xs⟩ := sx
      simp only [hlv] at hd
      split at hd
      · rename_i hc
        obtain ⟨rfl, hin, hon⟩ := hc
        simp only [Option.some.injEq] at hd
        subst hd
        obtain ⟨tyo, ho⟩ := live_get hlv
        simp only [R] at hx
        obtain ⟨hid, _, _, hx⟩ := hx
        obtain ⟨c', cs, el, f, rfl, _⟩ := hx _ _ _ ho
        refine Yields.same ok (v := .pointer (some ⟨(h.M id).1, (h.M id).2 + off * size' + i * size', none⟩)) ?_ ?_
        · have : (0 : Int) ≤ (i : Int) ∧ (i : Int) < (n : Int) := by omega
          simp [Instr.indexAt, asIntOf, run_underlying hu, this, hsz, add_plain, hin]
        · simp only [R]
          refine ⟨hid, rfl, fun t2 s2 x2 ho2 => ?_⟩
          rw [ho] at ho2; cases ho2
          simp [Nat.add_mul, Nat.add_assoc]
      · cases hd
    | _ => simp [diadr, hn] at hd
  | arr n size =>
    obtain ⟨e, hu, hsz⟩ := ht
    cases x with
    | ptr id j off =>
      simp only [diadr, hn] at hd
      cases hlv : live h.own id with
      | none => simp [hlv] at hd
      | some sx =>
      obtain ⟨s1, x1⟩ := sx
      simp only [hlv] at hd
      split at hd
      · rename_i hin
        simp only [Option.some.injEq] at hd
        subst hd
        obtain ⟨tyo, ho⟩ := live_get hlv
        simp only [R] at hx
        obtain ⟨hid, _, hx⟩ := hx
        have := hx _ _ _ ho
        subst this
        refine Yields.same ok (v := .pointer (some ⟨(h.M id).1, (h.M id).2 + j * s1 + off + i * size, none⟩)) ?_ ?_
        · have : (0 : Int) ≤ (i : Int) ∧ (i : Int) < (n : Int) := by omega
          simp [Instr.indexAt, Instr.sureAddr, asIntOf, run_underlying hu, this, hsz, add_plain, hin]
        · simp only [R]
          refine ⟨hid, rfl, fun t2 s2 x2 ho2 => ?_⟩
          rw [ho] at ho2; cases ho2
          simp [Nat.add_assoc]
      · cases hd
    | ep cs =>
      simp only [diadr, hn] at hd
      split at hd
      · rename_i hin
        simp only [Option.some.injEq] at hd
        subst hd
        simp only [R] at hx
        obtain ⟨b, off, vs, rfl, h2, h3, h4⟩ := hx
        refine Yields.same ok (v := .pointer (some ⟨b, off + i * size, none⟩)) ?_ ?_
        · have : (0 : Int) ≤ (i : Int) ∧ (i : Int) < (n : Int) := by omega
          simp [Instr.indexAt, Instr.sureAddr, asIntOf, run_underlying hu, this, hsz, add_plain, hin]
        · simp only [R]
          refine ⟨b, _, vs.drop (i * size), rfl, h2, ?_, h4.drop _⟩
          intro k hk
          simp only [List.getElem_drop]
          rw [Nat.add_assoc]
          exact h3 (i * size + k) (by simp at hk; omega)
      · cases hd
    | _ => simp [diadr, hn] at hd

/-- '&x.f', f so many cells behind x's beginning. -/
def dfadr (own : Tr Obj) (off : Nat) (x : D) : Option D :=
  match x with
  | .ptr id i o => match live own id with | some _ => some (.ptr id i (o + off)) | none => none
  | .ep cs => some (.ep (cs.drop off))
  | _ => none

theorem dfadr_sound (ok : OK C h) {s : TypeId} {fields : Array Field} {fi : Nat} {f : Field} {n : Nat} (hu : P.underlying s = some (.struct fields)) (hf : fields[fi]? = some f) (hs : ∀ w, (Go.sizeOf f.type).run P w = Result.ok (n + 1) w)
    {x d : D} {ux : Value} (hx : R C h x ux) (hd : dfadr h.own f.offset x = some d) : Yields C P h (Instr.fieldAt s ux fi) d h.own h.next := by
  have hrun : ∀ b o, (Instr.fieldAt s (.pointer (some ⟨b, o, none⟩)) fi).run P h.w = .ok (.pointer (some ⟨b, o + f.offset, none⟩)) h.w := by
    intro b o
    simp [Instr.fieldAt, run_underlying hu, hf, Instr.sureAddr, fieldPlace, hs, add_plain]
  cases x with
  | ptr id i o =>
    simp only [dfadr] at hd
    cases hlv : live h.own id with
    | none => simp [hlv] at hd
    | some sx =>
    obtain ⟨s1, x1⟩ := sx
    simp only [hlv, Option.some.injEq] at hd
    subst hd
    obtain ⟨tyo, ho⟩ := live_get hlv
    simp only [R] at hx
    obtain ⟨hid, _, hx⟩ := hx
    have := hx _ _ _ ho
    subst this
    refine Yields.same ok (hrun _ _) ?_
    simp only [R]
    refine ⟨hid, rfl, fun t2 s2 x2 ho2 => ?_⟩
    rw [ho] at ho2; cases ho2
    simp [Nat.add_assoc]
  | ep cs =>
    simp only [dfadr, Option.some.injEq] at hd
    subst hd
    simp only [R] at hx
    obtain ⟨b, off, vs, rfl, h2, h3, h4⟩ := hx
    refine Yields.same ok (hrun _ _) ?_
    simp only [R]
    refine ⟨b, _, vs.drop f.offset, rfl, h2, ?_, h4.drop _⟩
    intro k hk
    simp only [List.getElem_drop]
    rw [Nat.add_assoc]
    exact h3 (f.offset + k) (by simp at hk; omega)
  | _ => simp [dfadr] at hd
end
end Gv
