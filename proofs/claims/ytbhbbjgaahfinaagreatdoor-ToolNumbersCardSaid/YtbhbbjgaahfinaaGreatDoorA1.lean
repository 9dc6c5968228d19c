/- Part of the proof of ToolNumbers by an evaluator that is proved sound: A1. No condition of its own. -/
import Derived.Laws.CopyRow
import Derived.Laws.Cells
import Derived.Test.YtbhbbjgaahfinaaGreatDoorA0
set_option linter.unusedVariables false
set_option linter.unusedSimpArgs false
/-! Loads, stores, new memory. -/
namespace Gv
open Go
set_option linter.unusedVariables false

theorem add_plain (b off n : Nat) : (⟨b, off, none⟩ : Addr).add n = ⟨b, off + n, none⟩ := by
  unfold Addr.add; split <;> simp_all

theorem setRow_eq {w : World} {g : Nat} {cur : Array Value} {t : TypeId} {fr : Nat × Nat} (hg : w.heap[g]? = some (.cells cur t fr)) (new : Array Value) :
    w.setRow g new = { w with heap := w.heap.setIfInBounds g (.cells new t fr) } := by
  have hlt : g < w.heap.size := (Array.getElem?_eq_some_iff.1 hg).1
  have hv : w.heap[g] = .cells cur t fr := (Array.getElem?_eq_some_iff.1 hg).2
  unfold World.setRow
  congr 1
  apply Array.ext
  · simp
  · intro k h1 h2
    simp only [Array.getElem_modify]
    split
    · rename_i hk; subst hk; simp [hv]
    · rename_i hk; rw [Array.getElem_setIfInBounds_ne (by simpa using h2) hk]

section
variable {C : Cx} {h : HS} {P : Program}

/-- The cells of an object's element. -/
theorem arr_at (ok : OK C h) {id ty size : Nat} {xs : List D} (ho : h.own.get id = some (.arr ty size xs)) {i : Nat} {x : D} (hi : xs[i]? = some x) :
    ∃ c u a z, h.w.heap[(h.M id).1]? = some (.cells c ty (0, 0)) ∧ R C h x u ∧ u.cells.size = size ∧ c.toList = a ++ (u.cells.toList ++ z) ∧ a.length = (h.M id).2 + i * size ∧
      (∀ x' (u' : Value), u'.cells.size = size → (∀ q ∈ u'.cells.toList, q.oneCell' = true) → ∀ h' : HS, Ext h h' → R C h' x' u' → h'.M id = h.M id →
        h'.w.heap[(h.M id).1]? = some (.cells (a ++ (u'.cells.toList ++ z)).toArray ty (0, 0)) → OR C h' id (.arr ty size (xs.set i x'))) := by
  obtain ⟨h1, h2, h3, c, h4, pre, cs, rest, h5, h6, h7⟩ := ok.id id _ ho
  obtain ⟨u, r1, r2, r3, r4, r5, r6⟩ := h7.at i hi
  have hlen := h7.length
  have hix : i < xs.length := by
    rcases Nat.lt_or_ge i xs.length with hh | hh
    · exact hh
    · rw [List.getElem?_eq_none hh] at hi; cases hi
  have hle : i * size ≤ cs.length := by rw [hlen]; exact Nat.mul_le_mul_right _ (Nat.le_of_lt hix)
  refine ⟨c, u, pre ++ cs.take (i * size), cs.drop (i * size + size) ++ rest, h4, r1, r2, ?_, ?_, ?_⟩
  · rw [h5]; conv => lhs; rw [r4]
    simp [List.append_assoc]
  · simp [h6]; omega
  · intro x' u' hs h1' h' ext hr hM hh
    refine ⟨_, by rw [hM]; exact hh, pre, cs.take (i * size) ++ (u'.cells.toList ++ cs.drop (i * size + size)), rest, by simp [List.append_assoc], by rw [hM]; exact h6, ?_⟩
    have e1 : xs.set i x' = xs.take i ++ (x' :: xs.drop (i + 1)) := by
      rw [List.set_eq_take_append_cons_drop]; simp [hix]
    rw [e1]
    exact RE.append (r5.ext ext) (RE.cons hs h1' hr (r6.ext ext))

/-- What is loaded from memory. -/
def dload (own : Tr Obj) (n : Option Nat) (a : D) : Option D :=
  match a with
  | .ptr id i off =>
    match own.get id with
    | some (.arr _ _ xs) =>
      match xs[i]? with
      | some x =>
        match x.cells? with
        | some cs => mkval n (cs.drop off)
        | none => none
      | none => none
    | _ => none
  | .ep cs => mkval n cs
  | _ => none

theorem loadVar_cells {w : World} {t : TypeId} {n : Option Nat} (hagg : ∀ w, (isAgg t).run P w = Result.ok n.isSome w) (hsz : ∀ k, n = some k → ∀ w, (Go.sizeOf t).run P w = Result.ok k w)
    {b off : Nat} {cs : List Value} (hc : cellsAt w b off cs) {ds : List D} (hr : RL C h true ds cs) {d : D} (hd : mkval n ds = some d) :
    ∃ v, (loadVar t ⟨b, off, none⟩).run P w = .ok v w ∧ R C h d v := by
  have hl := hr.length
  cases n with
  | none =>
    simp only [mkval] at hd
    cases ds with
    | nil => simp at hd
    | cons x ds =>
      simp only [List.head?_cons, Option.some.injEq] at hd
      subst hd
      obtain ⟨u, rest, rfl, h1, h2, h3⟩ := hr.cons_inv
      have := hc 0 (by simp)
      simp only [Nat.add_zero, List.getElem_cons_zero] at this
      refine ⟨u, ?_, h2⟩
      simp [loadVar, hagg, this]
  | some k =>
    simp only [mkval] at hd
    split at hd
    · rename_i hk
      simp only [Option.some.injEq] at hd
      subst hd
      have ht : (cs.take k).length = k := by simp; omega
      have := run_loadCells_list (P := P) w ⟨b, off, none⟩ (cs.take k) (fun j v hj => by
        rw [add_plain]
        have hj' : j < k ∧ j < cs.length := by
          have := (List.getElem?_eq_some_iff.1 hj).1
          simp at this; omega
        rw [hc j hj'.2]
        rw [List.getElem?_take, if_pos hj'.1, List.getElem?_eq_getElem hj'.2] at hj
        exact hj)
      rw [ht] at this
      refine ⟨.agg (cs.take k).toArray, ?_, ?_⟩
      · simp [loadVar, hagg, hsz k rfl, this]
      · simp only [R]
        exact ⟨_, rfl, by simpa using hr.take k⟩
    · cases hd

theorem load_sound (ok : OK C h) {t : TypeId} {n : Option Nat} (hagg : ∀ w, (isAgg t).run P w = Result.ok n.isSome w) (hsz : ∀ k, n = some k → ∀ w, (Go.sizeOf t).run P w = Result.ok k w)
    {a d : D} {u : Value} (hr : R C h a u) (hd : dload h.own n a = some d) : ∃ v, (Instr.loadAt t u).run P h.w = .ok v h.w ∧ R C h d v := by
  cases a with
  | ptr id i off =>
    simp only [dload] at hd
    split at hd
    · rename_i size xs ho
      split at hd
      · rename_i x hx
        split at hd
        · rename_i cs hcs
          obtain ⟨c, v, a, z, h1, h2, h3, h4, h5, _⟩ := arr_at ok ho hx
          have hrl := (cells_sound h2 hcs).drop off
          simp only [R] at hr
          have hu := hr.2.2 _ _ _ ho
          subst hu
          have hc : cellsAt h.w (h.M id).1 ((h.M id).2 + i * size + off) (v.cells.toList.drop off) := by
            intro k hk
            simp only [World.cell?, h1]
            have hk' : off + k < v.cells.toList.length := by simp at hk ⊢; omega
            simp only [Option.isSome_none, Bool.false_eq_true, if_false]
            rw [← Array.getElem?_toList, h4, ← h5, Nat.add_assoc, List.getElem?_append_right (by omega)]
            rw [show a.length + (off + k) - a.length = off + k by omega, List.getElem?_append_left hk']
            simp
          obtain ⟨v', hv', hr'⟩ := loadVar_cells (P := P) hagg hsz hc hrl hd
          exact ⟨v', by simpa [Instr.loadAt, Instr.sureAddr] using hv', hr'⟩
        · cases hd
      · cases hd
    · cases hd
  | ep cs =>
    simp only [dload] at hd
    simp only [R] at hr
    obtain ⟨b, off, vs, rfl, h2, h3, h4⟩ := hr
    obtain ⟨v', hv', hr'⟩ := loadVar_cells (P := P) hagg hsz h3 h4 hd
    exact ⟨v', by simpa [Instr.loadAt, Instr.sureAddr] using hv', hr'⟩
  | _ => simp [dload] at hd

/-- What a store makes of the objects: so many cells. -/
def dstore (own : Tr Obj) (n : Nat) (a x : D) : Option (Tr Obj) :=
  match a with
  | .ptr id i off =>
    match own.get id with
    | some (.arr ty size xs) =>
      match xs[i]?, x.cells? with
      | some y, some vs =>
        match y.cells? with
        | some cs =>
          if vs.length = n ∧ off + n ≤ cs.length then
            match y with
            | .agg _ => some (own.put id (some (.arr ty size (xs.set i (.agg (cs.take off ++ (vs ++ cs.drop (off + n))))))))
            | _ => if n = 1 then some (own.put id (some (.arr ty size (xs.set i x)))) else none
          else none
        | none => none
      | _, _ => none
    | _ => none
  | _ => none

theorem take_app {α : Type} (a b : List α) (n : Nat) (hn : n = a.length) : (a ++ b).take n = a := by subst hn; simp
theorem drop_app {α : Type} (a b : List α) (n : Nat) (hn : n = a.length) : (a ++ b).drop n = b := by subst hn; simp

theorem store_sound (ok : OK C h) {t : TypeId} {n : Nat} (hsz : ∀ w, (Go.sizeOf t).run P w = Result.ok n w)
    {a x : D} {u ux : Value} (hr : R C h a u) (hrx : R C h x ux) {own' : Tr Obj} (hd : dstore h.own n a x = some own') :
    ∃ h' : HS, (Instr.storeAt t u ux).run P h.w = .ok () h'.w ∧ h'.own = own' ∧ h'.next = h.next ∧ Ext h h' ∧ OK C h' := by
  cases a with
  | ptr id i off =>
    simp only [dstore] at hd
    split at hd
    · rename_i ty size xs ho
      split at hd
      · rename_i y vs hy hvs
        split at hd
        · rename_i cs hcs
          split at hd
          · rename_i hcond
            obtain ⟨hn, hoff⟩ := hcond
            obtain ⟨c, v, pa, z, h1, h2, h3, h4, h5, hput⟩ := arr_at ok ho hy
            have hsx := cells_sound hrx hvs
            have hlx := hsx.length
            have hsy := cells_sound h2 hcs
            have hly := hsy.length
            simp only [R] at hr
            have hu := hr.2.2 _ _ _ ho
            subst hu
            have hcsz : c.size = pa.length + (v.cells.toList.length + z.length) := by rw [← Array.length_toList, h4]; simp
            have hst := run_storeCells_at P (h.M id).1 ((h.M id).2 + i * size + off) ty ux.cells.toList 0 c h.w h1 (by simp at hlx ⊢; omega) hsx.one
            have hnew : c.toList.take ((h.M id).2 + i * size + off + 0) ++ ux.cells.toList ++ c.toList.drop ((h.M id).2 + i * size + off + 0 + ux.cells.toList.length) =
                pa ++ ((v.cells.toList.take off ++ (ux.cells.toList ++ v.cells.toList.drop (off + n))) ++ z) := by
              rw [h4, ← h5, Nat.add_zero, List.take_append, List.drop_append]
              have e1 : pa.take (pa.length + off) = pa := List.take_of_length_le (by omega)
              have e2 : pa.drop (pa.length + off + ux.cells.toList.length) = [] := List.drop_of_length_le (by omega)
              rw [e1, e2, show pa.length + off - pa.length = off by omega, show pa.length + off + ux.cells.toList.length - pa.length = off + n by rw [hlx, hn]; omega]
              rw [List.take_append_of_le_length (by omega), List.drop_append_of_le_length (by omega)]
              simp [List.append_assoc]
            rw [hnew] at hst
            rw [setRow_eq h1] at hst
            -- the new element
            obtain ⟨x', u', hown, hu1, hu2, hu3, hcell⟩ : ∃ (x' : D) (u' : Value), own' = h.own.put id (some (.arr ty size (xs.set i x'))) ∧ u'.cells.size = size ∧ (∀ q ∈ u'.cells.toList, q.oneCell' = true) ∧ R C h x' u' ∧
                u'.cells.toList = v.cells.toList.take off ++ (ux.cells.toList ++ v.cells.toList.drop (off + n)) := by
              have hall : ∀ q ∈ v.cells.toList.take off ++ (ux.cells.toList ++ v.cells.toList.drop (off + n)), q.oneCell' = true := by
                intro q hq
                rcases List.mem_append.1 hq with hq | hq
                · exact hsy.one q (List.mem_of_mem_take hq)
                rcases List.mem_append.1 hq with hq | hq
                · exact hsx.one q hq
                · exact hsy.one q (List.mem_of_mem_drop hq)
              by_cases hya : ∃ ys, y = .agg ys
              · obtain ⟨ys, rfl⟩ := hya
                simp only [D.cells?, Option.some.injEq] at hcs
                subst hcs
                simp only [Option.some.injEq] at hd
                refine ⟨_, .agg (v.cells.toList.take off ++ (ux.cells.toList ++ v.cells.toList.drop (off + n))).toArray, hd.symm, ?_, by simpa [Value.cells] using hall, ?_, by simp [Value.cells]⟩
                · have : (v.cells.toList.take off ++ (ux.cells.toList ++ v.cells.toList.drop (off + n))).length = v.cells.toList.length := by
                    simp only [List.length_append, List.length_take, List.length_drop]; omega
                  rw [show ∀ l : List Value, (Value.agg l.toArray).cells.size = l.length from fun l => by simp [Value.cells], this]
                  rw [Array.length_toList]; exact h3
                · simp only [R]
                  exact ⟨_, rfl, by simpa using (hsy.take off).append (hsx.append (hsy.drop (off + n)))⟩
              · have h1s : cs.length = 1 ∧ own' = h.own.put id (some (.arr ty size (xs.set i x))) ∧ n = 1 := by
                  cases y with
                  | agg ys => exact absurd ⟨ys, rfl⟩ hya
                  | junk => simp [D.cells?] at hcs
                  | tup _ => simp [D.cells?] at hcs
                  | v q =>
                    simp only [D.cells?] at hcs
                    split at hcs
                    · simp only [Option.some.injEq] at hcs hd
                      split at hd
                      · rename_i hn1; simp only [Option.some.injEq] at hd; exact ⟨by rw [← hcs]; rfl, hd.symm, hn1⟩
                      · cases hd
                    · cases hcs
                  | _ =>
                    simp only [D.cells?, Option.some.injEq] at hcs hd
                    split at hd
                    · rename_i hn1; simp only [Option.some.injEq] at hd; exact ⟨by rw [← hcs]; rfl, hd.symm, hn1⟩
                    · cases hd
                obtain ⟨hl1, hown, hn1⟩ := h1s
                have ho0 : off = 0 := by omega
                have hvl : v.cells.toList.length = 1 := by omega
                refine ⟨x, ux, hown, ?_, hsx.one, hrx, ?_⟩
                · have e1 : ux.cells.size = 1 := by rw [← Array.length_toList]; omega
                  have e2 : v.cells.size = 1 := by rw [← Array.length_toList]; omega
                  omega
                · subst ho0
                  rw [List.drop_of_length_le (by omega)]
                  simp
            refine ⟨h.setObj id (.cells (pa ++ (u'.cells.toList ++ z)).toArray ty (0, 0)) (.arr ty size (xs.set i x')), ?_, by rw [hown]; rfl, rfl, ?_, ?_⟩
            · have hcx : ux.cells.size = n := by simpa [hn] using hlx
              simp [Instr.storeAt, Instr.sureAddr, storeVar, hsz, hcx, hst, hcell, HS.setObj]
            · refine Ext.setObj ok ho _ (by simp [Obj.sim]) ?_
              intro c' e' f' hc'
              rw [h1] at hc'
              simp only [Option.some.injEq, Go.Obj.cells.injEq] at hc'
              obtain ⟨rfl, rfl, rfl⟩ := hc'
              exact ⟨_, _, rfl, by simp [hcsz, hu1, h3]⟩
            · have hext : Ext h (h.setObj id (.cells (pa ++ (u'.cells.toList ++ z)).toArray ty (0, 0)) (.arr ty size (xs.set i x'))) := by
                refine Ext.setObj ok ho _ (by simp [Obj.sim]) ?_
                intro c' e' f' hc'
                rw [h1] at hc'
                simp only [Option.some.injEq, Go.Obj.cells.injEq] at hc'
                obtain ⟨rfl, rfl, rfl⟩ := hc'
                exact ⟨_, _, rfl, by simp [hcsz, hu1, h3]⟩
              exact OK.setObj ok ho hext (hput x' u' hu1 hu2 _ hext (hu3.ext hext) rfl (setObj_self (lt_of_heap h1)))
          · cases hd
        · cases hd
      · cases hd
    · cases hd
  | _ => simp [dstore] at hd
end
end Gv
/-! New memory: variables, literals, make. -/
namespace Gv
open Go
set_option linter.unusedVariables false

section
variable {C : Cx} {h : HS} {P : Program}

/-- An operation yields an abstract value, and leaves such a heap. -/
def Yields (C : Cx) (P : Program) (h : HS) (s : Sem Value) (d : D) (own' : Tr Obj) (next' : Nat) : Prop :=
  ∃ v h', s.run P h.w = .ok v h'.w ∧ R C h' d v ∧ h'.own = own' ∧ h'.next = next' ∧ Ext h h' ∧ OK C h'

theorem Yields.same (ok : OK C h) {s : Sem Value} {d : D} {v : Value} (hs : s.run P h.w = .ok v h.w) (hr : R C h d v) : Yields C P h s d h.own h.next :=
  ⟨v, h, hs, hr, rfl, rfl, Ext.refl h, ok⟩

theorem R_ptr_new {g : Go.Obj} {ty size : Nat} {xs : List D} : R C (h.alloc g (.arr ty size xs)) (.ptr h.next 0 0) (.pointer (some ⟨h.w.heap.size, 0, none⟩)) := by
  simp only [R]
  refine ⟨by simp [HS.alloc], rfl, fun ty' size' xs' _ => ?_⟩
  rw [alloc_M_new]; simp

theorem OR_arr_new {h' : HS} {id b : Nat} {c : List Value} {e : TypeId} {size : Nat} {xs : List D} (hM : h'.M id = (b, 0)) (hb : h'.w.heap[b]? = some (.cells c.toArray e (0, 0))) (hr : RE C h' size xs c) :
    OR C h' id (.arr e size xs) := by
  refine ⟨c.toArray, by rw [hM]; exact hb, [], c, [], by simp, by rw [hM]; rfl, hr⟩

/-- A new variable that holds a value. -/
theorem newVar_sound (ok : OK C h) {t : TypeId} {x : D} {u : Value} (hr : R C h x u) {cs : List D} (hc : x.cells? = some cs) :
    ∃ h', (newVar t u).run P h.w = .ok ⟨h.w.heap.size, 0, none⟩ h'.w ∧ R C h' (.ptr h.next 0 0) (.pointer (some ⟨h.w.heap.size, 0, none⟩)) ∧
      h'.own = h.own.put h.next (some (.arr t cs.length [x])) ∧ h'.next = h.next + 1 ∧ Ext h h' ∧ OK C h' := by
  have hs := cells_sound hr hc
  have hext := Ext.alloc ok (.cells u.cells t) (.arr t cs.length [x])
  refine ⟨h.alloc (.cells u.cells t) (.arr t cs.length [x]), by simp [newVar, newRow, HS.alloc], R_ptr_new, rfl, rfl, hext, OK.alloc ok ?_⟩
  refine OR_arr_new (b := h.w.heap.size) (c := u.cells.toList) (e := t) alloc_M_new (by rw [alloc_new]) ?_
  have := RE.cons (C := C) (h := h.alloc (.cells u.cells t) (.arr t cs.length [x])) (size := cs.length) (by have := hs.length; simpa using this) hs.one (hr.ext hext) RE.nil
  simpa using this

theorem alloc_sound (ok : OK C h) {t : TypeId} {x : D} {u : Value} (hz : ∀ w, (zeroValue t).run P w = Result.ok u w) (hr : R C h x u) {cs : List D} (hc : x.cells? = some cs) :
    Yields C P h (Instr.alloc t true (.tuple #[])) (.ptr h.next 0 0) (h.own.put h.next (some (.arr t cs.length [x]))) (h.next + 1) := by
  obtain ⟨h', h1, h2, h3, h4, h5, h6⟩ := newVar_sound (P := P) ok (t := t) hr hc
  exact ⟨_, h', by simp [Instr.alloc, hz, h1], h2, h3, h4, h5, h6⟩

theorem box_sound (ok : OK C h) {t : TypeId} {x : D} {u : Value} (hr : R C h x u) {cs : List D} (hc : x.cells? = some cs) :
    Yields C P h (Instr.box t u) (.ptr h.next 0 0) (h.own.put h.next (some (.arr t cs.length [x]))) (h.next + 1) := by
  obtain ⟨h', h1, h2, h3, h4, h5, h6⟩ := newVar_sound (P := P) ok (t := t) hr hc
  exact ⟨_, h', by simp [Instr.box, h1], h2, h3, h4, h5, h6⟩

/-! ### make -/
theorem zeros_list (z : Array Value) (hz : z.size ≠ 0) (n : Nat) : ((Array.range (n * z.size)).map (z[· % z.size]!)).toList = (List.replicate n z.toList).flatten := by
  have step : ∀ n, ((List.range (n * z.size)).map (z[· % z.size]!)) = (List.replicate n z.toList).flatten := by
    intro n
    induction n with
    | zero => simp
    | succ n ih =>
      rw [Nat.succ_mul, List.range_add, List.map_append, ih, List.replicate_succ', List.flatten_append]
      congr 1
      simp only [List.map_map, List.flatten_cons, List.flatten_nil, List.append_nil]
      apply List.ext_getElem
      · simp
      · intro i h1 h2
        simp only [List.getElem_map, List.getElem_range, Function.comp]
        have hi : i < z.size := by simpa using h2
        rw [Nat.mul_comm n, Nat.mul_add_mod, Nat.mod_eq_of_lt hi]
        simp [hi]
  rw [Array.toList_map, Array.toList_range]
  exact step n

theorem RE_replicate {size : Nat} {z : D} {u : Value} (h1 : u.cells.size = size) (h2 : ∀ c ∈ u.cells.toList, c.oneCell' = true) (hr : R C h z u) : ∀ n, RE C h size (List.replicate n z) (List.replicate n u.cells.toList).flatten
  | 0 => by simp [RE]
  | n + 1 => by
    simp only [List.replicate_succ, List.flatten_cons]
    exact RE.cons h1 h2 hr (RE_replicate h1 h2 hr n)

/-- Facts on an element's type: its size, its bytes, its zero value. -/
structure ElemOK (P : Program) (e : TypeId) (size bytes : Nat) (z : D) : Prop where
  info : ∃ i, P.info? e = some i ∧ i.size = size ∧ i.bytes = bytes ∧ ∃ u, i.zero = some u ∧ (∀ C h, R C h z u) ∧ u.cells.size = size
  pos : 0 < size
  cells : ∃ cs, z.cells? = some cs

theorem ElemOK.zero {e : TypeId} {size bytes : Nat} {z : D} (he : ElemOK P e size bytes z) : ∃ u, (∀ w, (zeroValue e).run P w = Result.ok u w) ∧ (∀ C h, R C h z u) ∧ u.cells.size = size ∧ (∀ c ∈ u.cells.toList, c.oneCell' = true) := by
  obtain ⟨⟨i, h1, h2, h3, u, h4, h5, h6⟩, h7, cs, h8⟩ := he
  refine ⟨u, fun w => by simp [zeroValue, typeInfo, h1, h4], h5, h6, ?_⟩
  exact (cells_sound (h5 ⟨fun _ => False, fun _ _ _ => False⟩ ⟨.nil, 0, fun _ => (0, 0), default⟩) h8).one
theorem ElemOK.sz {e : TypeId} {size bytes : Nat} {z : D} (he : ElemOK P e size bytes z) : ∀ w, (Go.sizeOf e).run P w = Result.ok size w := by
  obtain ⟨⟨i, h1, h2, _⟩, _⟩ := he
  intro w; simp [Go.sizeOf, typeInfo, h1, h2]
theorem ElemOK.ti {e : TypeId} {size bytes : Nat} {z : D} (he : ElemOK P e size bytes z) : ∃ i, (∀ w, (typeInfo e).run P w = Result.ok i w) ∧ i.bytes = bytes ∧ i.size = size ∧ P.info? e = some i := by
  obtain ⟨⟨i, h1, h2, h3, _⟩, _⟩ := he
  exact ⟨i, fun w => by simp [typeInfo, h1], h3, h2, h1⟩

def smallInt (n : Int) (bytes : Nat) : Bool := decide (0 ≤ n) && decide (n ≤ 2 ^ 47) && decide (n * bytes ≤ 2 ^ 47)

theorem wrap_small {n : Int} (h0 : 0 ≤ n) (h1 : n ≤ 2 ^ 47) : IntKind.i64.wrap n = n := by
  have e : n % (2 ^ IntKind.i64.bits : Int) = n := Int.emod_eq_of_lt h0 (Int.lt_of_le_of_lt h1 (by decide))
  unfold IntKind.wrap
  simp only [e]
  have : ¬ (n ≥ (2 ^ (IntKind.i64.bits - 1) : Int)) := by
    have : (2 ^ (IntKind.i64.bits - 1) : Int) = 2 ^ 63 := rfl
    rw [this]; omega
  simp [this]

/-- 'make([]T, l, c)'. -/
def dmake (own : Tr Obj) (next ty size bytes : Nat) (z l c : D) : Option (D × Tr Obj) :=
  match l, c with
  | .v (.int _ l), .v (.int _ c) =>
    if smallInt c bytes && decide (0 ≤ l) && decide (l ≤ c) then
      some (.own next 0 l.toNat (some c.toNat), own.put next (some (.arr ty size (List.replicate l.toNat z))))
    else none
  | _, _ => none

theorem make_sound (ok : OK C h) {t e : TypeId} {size bytes : Nat} {z : D} (hu : P.underlying t = some (.slice e)) (he : ElemOK P e size bytes z) {l c d : D} {ul uc : Value}
    (hl : R C h l ul) (hc : R C h c uc) {own' : Tr Obj} (hd : dmake h.own h.next e size bytes z l c = some (d, own')) : Yields C P h (Instr.makeSlice t ul uc) d own' (h.next + 1) := by
  unfold dmake at hd
  split at hd
  · rename_i kl l kc c
    split at hd
    · rename_i hcond
      simp only [Bool.and_eq_true, decide_eq_true_eq, smallInt] at hcond
      obtain ⟨⟨⟨⟨hc0, hc1⟩, hc2⟩, hl0⟩, hlc⟩ := hcond
      simp only [Option.some.injEq, Prod.mk.injEq] at hd
      obtain ⟨rfl, rfl⟩ := hd
      simp only [R] at hl hc
      subst hl; subst hc
      obtain ⟨zu, hz1, hz2, hz3, hz4⟩ := he.zero
      obtain ⟨i, hi1, hi2, hi3, hi4⟩ := he.ti
      have hwl : IntKind.i64.wrap l = l := wrap_small hl0 (by omega)
      have hwc : IntKind.i64.wrap c = c := wrap_small hc0 hc1
      have hbytes : ¬ ((bytes : Int) * c > 2 ^ 48) := by rw [Int.mul_comm]; omega
      have hpos := he.pos
      obtain ⟨l', rfl⟩ := Int.eq_ofNat_of_zero_le hl0
      obtain ⟨c', rfl⟩ := Int.eq_ofNat_of_zero_le hc0
      simp only [Int.toNat_natCast, Int.ofNat_eq_natCast] at *
      have hzs : zu.cells.size ≠ 0 := by omega
      let cells : Array Value := (Array.range (c' * size)).map ((if c' * size = 0 then #[] else zu.cells)[· % (if c' * size = 0 then #[] else zu.cells).size]!)
      have hcl : cells.toList = (List.replicate c' zu.cells.toList).flatten := by
        by_cases h0 : c' * size = 0
        · have : c' = 0 := by
            rcases Nat.mul_eq_zero.1 h0 with hh | hh
            · exact hh
            · omega
          subst this
          simp [cells]
        · have := zeros_list zu.cells hzs c'
          rw [hz3] at this
          simp only [cells, if_neg h0, hz3]
          exact this
      have hmk : (Instr.makeSlice t (.int kl l') (.int kc c')).run P h.w =
          .ok (.slice (some ⟨h.w.heap.size, 0, none⟩) l' c') { h.w with heap := h.w.heap.push (.cells cells e (0, 0)) } := by
        have c1 : ¬ ((l' : Int) < 0) := by omega
        have c2 : ¬ ((c' : Int) < 0) := by omega
        have c3 : ¬ ((l' : Int) > (c' : Int)) := by omega
        simp only [Instr.makeSlice, Sem.run_bind, run_underlying hu, Result.andThen_ok, asInt, asIntOf, Sem.run_pure, hi1, hi2, hwl, hwc, c1, c2, c3, hbytes, hi3]
        simp only [decide_false, Bool.or_self, Bool.false_eq_true, if_false, Bool.or_false, Sem.run_bind, Sem.run_pure, Result.andThen_ok, run_askRoom, Int.toNat_natCast, he.sz]
        by_cases h0 : c' * size = 0
        · simp [h0, cells, newRow]
        · simp [h0, cells, newRow, hz1]
      have hext := Ext.alloc ok (.cells cells e (0, 0)) (.arr e size (List.replicate l' z))
      have hsplit : cells.toList = (List.replicate l' zu.cells.toList).flatten ++ (List.replicate (c' - l') zu.cells.toList).flatten := by
        rw [hcl, ← List.flatten_append, List.replicate_append_replicate]
        congr 2; omega
      refine ⟨_, h.alloc (.cells cells e (0, 0)) (.arr e size (List.replicate l' z)), hmk, ?_, rfl, rfl, hext, OK.alloc ok ?_⟩
      · simp only [R]
        refine ⟨by simp [HS.alloc], rfl, by unfold top; omega, fun ty' size' xs' ho => ?_⟩
        simp only [HS.alloc, Tr.get_put_eq, Option.some.injEq, Obj.arr.injEq] at ho
        obtain ⟨rfl, rfl, rfl⟩ := ho
        rw [alloc_M_new]
        refine ⟨c', cells, e, (0, 0), by simp, by omega, by simp, alloc_new, ?_⟩
        simp [cells]
      · refine ⟨cells, by rw [alloc_M_new]; exact alloc_new, [], (List.replicate l' zu.cells.toList).flatten, (List.replicate (c' - l') zu.cells.toList).flatten, by simpa using hsplit, by rw [alloc_M_new]; rfl, ?_⟩
        exact RE_replicate hz3 hz4 (hz2 _ _) _
    · cases hd
  · cases hd
end
end Gv
