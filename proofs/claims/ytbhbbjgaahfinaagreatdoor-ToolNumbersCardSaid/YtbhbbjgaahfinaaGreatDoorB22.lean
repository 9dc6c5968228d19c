/- Part of the proof of ToolNumbers by an evaluator that is proved sound: B22. No condition of its own. -/
import Derived.Test.YtbhbbjgaahfinaaGreatDoorB21
set_option linter.unusedVariables false
set_option linter.unusedSimpArgs false
/-! Regions that draw their order: what the compiler looked at, and what the evaluator found. -/
namespace Gv
open Go
set_option linter.unusedVariables false

/-! ### Edges -/
theorem orAll_bit {bs : List Nat} {j : Nat} : ∀ {es : List Edge}, (orAll bs es).testBit j = true ↔ ∃ e ∈ es, Region.binds .any e = true ∧ (e.on = j ∨ (bs.getD e.on 0).testBit j = true)
  | [] => by simp [orAll]
  | e :: es => by
    simp only [orAll]
    split
    · rename_i hb
      rw [Nat.testBit_or, Nat.testBit_or, Nat.testBit_two_pow]
      simp only [Bool.or_eq_true, decide_eq_true_eq, orAll_bit (es := es), List.mem_cons, exists_eq_or_imp, hb, true_and]
    · rename_i hb
      simp only [orAll_bit (es := es), List.mem_cons, exists_eq_or_imp]
      simp [hb]

theorem edgesOK_get {bs : List Nat} : ∀ {os : List Oper} {k : Nat}, edgesOK bs os k = true → ∀ i o, os[i]? = some o → bs.getD (k + i) 0 = orAll bs o.after.toList ∧ ∀ e ∈ o.after, Region.binds .any e = true → e.on < k + i
  | [], k, _, i, o, ho => by simp at ho
  | x :: os, k, h, i, o, ho => by
    simp only [edgesOK, Bool.and_eq_true] at h
    obtain ⟨⟨h1, h2⟩, h3⟩ := h
    cases i with
    | zero =>
      simp only [List.getElem?_cons_zero, Option.some.injEq] at ho; subst ho
      refine ⟨Nat.eq_of_beq_eq_true h1, fun e he hb => ?_⟩
      have := List.all_eq_true.1 h2 e (by simpa using he)
      simpa [hb, Nat.blt_eq] using this
    | succ i =>
      simp only [List.getElem?_cons_succ] at ho
      have := edgesOK_get h3 i o ho
      rw [show k + (i + 1) = k + 1 + i by omega]; exact this

/-! ### Items -/
theorem mkItems_mem : ∀ {os : List Oper} {is : List (Ins × Cls)} {k s i : Nat} {o : Oper} {x : Ins × Cls}, os[i]? = some o → is[i]? = some x → (⟨o, x.1, x.2, k + i, s + (is.take i).countP (fun x => x.2.steps)⟩ : DItem) ∈ mkItems os is k s
  | [], is, k, s, i, o, x, ho, hx => by simp at ho
  | _ :: _, [], k, s, i, o, x, ho, hx => by simp at hx
  | o0 :: os, (i0, c0) :: is, k, s, i, o, x, ho, hx => by
    cases i with
    | zero =>
      simp only [List.getElem?_cons_zero, Option.some.injEq] at ho hx; subst ho; subst hx
      simp [mkItems]
    | succ i =>
      simp only [List.getElem?_cons_succ] at ho hx
      simp only [mkItems]
      refine List.mem_cons_of_mem _ ?_
      have := mkItems_mem (k := k + 1) (s := if c0.steps then s + 1 else s) ho hx
      simp only [List.take_succ_cons, List.countP_cons]
      cases hc : c0.steps <;> simp only [hc] at this ⊢
      · simpa [Nat.add_assoc, Nat.add_comm, Nat.add_left_comm] using this
      · simpa [Nat.add_assoc, Nat.add_comm, Nat.add_left_comm] using this

theorem mkItems_inv : ∀ {os : List Oper} {is : List (Ins × Cls)} {k s : Nat} {y : DItem}, y ∈ mkItems os is k s → ∃ i x, os[i]? = some y.o ∧ is[i]? = some x ∧ y.i = x.1 ∧ y.c = x.2 ∧ y.k = k + i ∧ y.s = s + (is.take i).countP (fun x => x.2.steps)
  | [], is, k, s, y, h => by simp [mkItems] at h
  | _ :: _, [], k, s, y, h => by simp [mkItems] at h
  | o0 :: os, (i0, c0) :: is, k, s, y, h => by
    simp only [mkItems, List.mem_cons] at h
    rcases h with rfl | h
    · exact ⟨0, (i0, c0), rfl, rfl, rfl, rfl, rfl, by simp⟩
    · obtain ⟨i, x, h1, h2, h3, h4, h5, h6⟩ := mkItems_inv h
      refine ⟨i + 1, x, h1, h2, h3, h4, by omega, ?_⟩
      simp only [List.take_succ_cons, List.countP_cons]
      cases hc : c0.steps <;> simp only [hc] at h6 ⊢ <;> simp at h6 ⊢ <;> omega

theorem items_lt (m : Nat) : ∀ (os : List Oper) (is : List (Ins × Cls)) (k s : Nat), (mkItems os is k s).countP (fun y => y.c.steps && decide (y.s < m)) ≤ m - s
  | [], is, k, s => by simp [mkItems]
  | _ :: _, [], k, s => by simp [mkItems]
  | o0 :: os, (i0, c0) :: is, k, s => by
    simp only [mkItems, List.countP_cons]
    have := items_lt m os is (k + 1) (if c0.steps then s + 1 else s)
    cases hc : c0.steps <;> simp only [hc] at this ⊢ <;> simp at this ⊢
    · exact this
    · split <;> omega
theorem items_ge (m : Nat) : ∀ (os : List Oper) (is : List (Ins × Cls)) (k s : Nat), (mkItems os is k s).countP (fun y => y.c.steps && decide (m ≤ y.s)) ≤ (s + (mkItems os is k s).countP (fun y => y.c.steps)) - m
  | [], is, k, s => by simp [mkItems]
  | _ :: _, [], k, s => by simp [mkItems]
  | o0 :: os, (i0, c0) :: is, k, s => by
    simp only [mkItems, List.countP_cons]
    have h1 := items_ge m os is (k + 1) (if c0.steps then s + 1 else s)
    have h2 : (mkItems os is (k + 1) (if c0.steps then s + 1 else s)).countP (fun y => y.c.steps && decide (m ≤ y.s)) ≤ (mkItems os is (k + 1) (if c0.steps then s + 1 else s)).countP (fun y => y.c.steps) :=
      List.countP_mono_left (fun x _ h => by simp at h; exact h.1)
    cases hc : c0.steps <;> simp only [hc] at h1 h2 ⊢ <;> simp at h1 h2 ⊢
    · exact h1
    · split <;> omega
theorem items_eq (m : Nat) : ∀ (os : List Oper) (is : List (Ins × Cls)) (k s : Nat), (mkItems os is k s).countP (fun y => y.c.steps && decide (y.s = m)) ≤ (if s ≤ m then 1 else 0)
  | [], is, k, s => by simp [mkItems]
  | _ :: _, [], k, s => by simp [mkItems]
  | o0 :: os, (i0, c0) :: is, k, s => by
    simp only [mkItems, List.countP_cons]
    have h1 := items_eq m os is (k + 1) (if c0.steps then s + 1 else s)
    cases hc : c0.steps <;> simp only [hc] at h1 ⊢ <;> simp at h1 ⊢
    · exact h1
    · split at h1 <;> split <;> split <;> omega
theorem countP_or_le {α : Type} (p q : α → Bool) : ∀ l : List α, l.countP (fun x => p x || q x) ≤ l.countP p + l.countP q
  | [] => by simp
  | x :: l => by
    have := countP_or_le p q l
    simp only [List.countP_cons]
    cases p x <;> cases q x <;> simp <;> omega

/-! ### What was found -/
instance : Inhabited Rec := ⟨⟨⟨none, .bad, none⟩, .step, .nil, .nil, 0, .junk⟩⟩

abbrev St3 := Tr D × Tr Obj × Nat
def stAt (rs : List Rec) (f : St3) (k : Nat) : St3 := match rs[k]? with | some r => (r.E, r.own, r.next) | none => f

section
variable {T : Tab} {self : IC → St → Option (DX × St)}

theorem ddraw_trace : ∀ {l : List (Ins × Cls)} {E : Tr D} {own : Tr Obj} {next : Nat} {rs : List Rec} {f : St3}, ddraw T self l E own next = some (rs, f) →
    rs.map (fun r => (r.ins, r.cls)) = l ∧ stAt rs f 0 = (E, own, next) ∧ ∀ k r, rs[k]? = some r → ddraw1 T self r.ins r.cls r.E r.own r.next = some (r.d, stAt rs f (k + 1))
  | [], E, own, next, rs, f, h => by
    simp only [ddraw, Option.some.injEq, Prod.mk.injEq] at h
    obtain ⟨rfl, rfl⟩ := h
    exact ⟨rfl, rfl, fun k r hr => by simp at hr⟩
  | (i, c) :: l, E, own, next, rs, f, h => by
    simp only [ddraw] at h
    split at h
    · rename_i d E' own' next' h1
      split at h
      · rename_i rs' f' h2
        simp only [Option.some.injEq, Prod.mk.injEq] at h
        obtain ⟨rfl, rfl⟩ := h
        obtain ⟨k1, k2, k3⟩ := ddraw_trace h2
        refine ⟨by simp [k1], rfl, fun k r hr => ?_⟩
        cases k with
        | zero =>
          simp only [List.getElem?_cons_zero, Option.some.injEq] at hr; subst hr
          simp only []
          rw [h1]
          have : stAt (⟨i, c, E, own, next, d⟩ :: rs') f' 1 = stAt rs' f' 0 := rfl
          rw [this, k2]
        | succ k =>
          simp only [List.getElem?_cons_succ] at hr
          have := k3 k r hr
          rw [this]; rfl
      · cases h
    · cases h

/-- What looks leaves the state alone. -/
theorem ddraw1_still {i : Ins} {c : Cls} {E : Tr D} {own : Tr Obj} {next : Nat} {d : D} {q : St3} (h : ddraw1 T self i c E own next = some (d, q)) (hc : c.steps = false) : q.2 = (own, next) := by
  cases c <;> simp [Cls.steps] at hc
  · simp only [ddraw1] at h
    obtain ⟨d', _, h⟩ := some1 h
    simp only [Option.some.injEq, Prod.mk.injEq] at h
    obtain ⟨_, rfl⟩ := h; rfl
  · simp only [ddraw1, Option.some.injEq, Prod.mk.injEq] at h
    obtain ⟨_, rfl⟩ := h; rfl

theorem ddraw1_env {i : Ins} {c : Cls} {E : Tr D} {own : Tr Obj} {next : Nat} {d : D} {q : St3} (h : ddraw1 T self i c E own next = some (d, q)) : q.1 = setDst E (edst i c) d := by
  cases c <;> simp only [ddraw1] at h
  · obtain ⟨d', _, h⟩ := some1 h
    simp only [Option.some.injEq, Prod.mk.injEq] at h
    obtain ⟨rfl, rfl⟩ := h; rfl
  · split at h
    · simp only [Option.some.injEq, Prod.mk.injEq] at h
      obtain ⟨rfl, rfl⟩ := h; rfl
    · cases h
  · split at h
    · simp only [Option.some.injEq, Prod.mk.injEq] at h
      obtain ⟨rfl, rfl⟩ := h; rfl
    · cases h
  · simp only [Option.some.injEq, Prod.mk.injEq] at h
    obtain ⟨rfl, rfl⟩ := h; rfl
  · split at h
    · obtain ⟨dd, _, h⟩ := some1 h
      obtain ⟨cs, _, h⟩ := some1 h
      split at h
      · simp only [Option.some.injEq, Prod.mk.injEq] at h
        obtain ⟨rfl, rfl⟩ := h; rfl
      · cases h
    · cases h

theorem statesOf_get {f : St3} : ∀ (rs : List Rec), (∀ k r, rs[k]? = some r → r.cls.steps = false → (stAt rs f (k + 1)).2 = (r.own, r.next)) →
    ∀ k, k ≤ rs.length → (statesOf rs f.2.1 f.2.2)[(rs.take k).countP (fun r => r.cls.steps)]? = some (stAt rs f k).2
  | [], _, k, hk => by
    obtain rfl : k = 0 := by simpa using hk
    rfl
  | r :: rs, hst, k, hk => by
    have ih := statesOf_get rs (fun k r' hr hc => hst (k + 1) r' (by simpa using hr) hc)
    cases k with
    | zero =>
      simp only [List.take_zero, List.countP_nil, statesOf]
      cases hc : r.cls.steps
      · simp only [Bool.false_eq_true, if_false]
        have := ih 0 (by omega)
        simp only [List.take_zero, List.countP_nil] at this
        rw [this]
        have h0 := hst 0 r rfl hc
        exact congrArg some h0
      · simp [stAt]
    | succ k =>
      have := ih k (by simpa using hk)
      simp only [List.take_succ_cons, List.countP_cons, statesOf]
      cases hc : r.cls.steps
      · simp only [Bool.false_eq_true, if_false, Nat.add_zero]
        rw [this]; rfl
      · simp only [if_true]
        rw [List.getElem?_cons_succ, this]; rfl

/-- The first step that may come ahead of the one before it: none. -/
theorem altOf_none : ∀ {rs : List Rec} {m : Nat} {prev : Option (Rec × Nat)}, altOf rs m prev = some none → ∀ r ∈ rs, r.cls ≠ .swap
  | [], m, prev, h, r, hr => by simp at hr
  | r0 :: rs, m, prev, h, r, hr => by
    simp only [altOf] at h
    rcases List.mem_cons.1 hr with rfl | hr
    · intro hc
      rw [hc] at h
      simp only at h
      split at h
      · split at h
        · split at h
          · split at h
            · cases h
            · obtain ⟨_, _, h⟩ := some1 h; cases h
          · cases h
        · cases h
      · cases h
    · split at h
      · split at h
        · split at h
          · split at h
            · split at h
              · cases h
              · obtain ⟨_, _, h⟩ := some1 h; cases h
            · cases h
          · cases h
        · cases h
      · exact altOf_none h r hr
      · exact altOf_none h r hr
      · exact altOf_none h r hr

/-- The pair that may be exchanged. -/
structure Pair (rs : List Rec) (k : Nat) (own' : Tr Obj) : Prop where
  ex : ∃ i r j p n a x n0 a0 x0 id e off dx id0 e0 off0, rs[i]? = some r ∧ r.cls = .swap ∧ rs[j]? = some p ∧ p.cls = .step ∧ j < i ∧ (rs.take j).countP (fun r => r.cls.steps) = k ∧ (rs.take i).countP (fun r => r.cls.steps) = k + 1 ∧
    r.ins.op = .store n a x ∧ r.ins.guard = none ∧ p.ins.op = .store n0 a0 x0 ∧ p.ins.guard = none ∧ ev r.E a = some (.ptr id e off) ∧ ev r.E x = some dx ∧ ev p.E a0 = some (.ptr id0 e0 off0) ∧ id ≠ id0 ∧ dstore p.own n (.ptr id e off) dx = some own' ∧
    (∀ i' r', rs[i']? = some r' → r'.cls = .swap → i' = i)

theorem altOf_some (full : List Rec) {k : Nat} {own' : Tr Obj} : ∀ (rs : List Rec) (q m : Nat) (prev : Option (Rec × Nat)), rs = full.drop q → m = (full.take q).countP (fun r => r.cls.steps) → (∀ r ∈ full.take q, r.cls ≠ .swap) →
    (∀ p kp, prev = some (p, kp) → ∃ j, j < q ∧ full[j]? = some p ∧ p.cls = .step ∧ kp = (full.take j).countP (fun r => r.cls.steps) ∧ m = kp + 1) → altOf rs m prev = some (some (k, own')) → Pair full k own'
  | [], q, m, prev, hrs, hm, hns, hp, h => by simp [altOf] at h
  | r :: rs, q, m, prev, hrs, hm, hns, hp, h => by
    have hq : full[q]? = some r := by
      have : (full.drop q)[0]? = some r := by rw [← hrs]; rfl
      simpa using this
    have hql : q < full.length := (List.getElem?_eq_some_iff.1 hq).1
    have hrs' : rs = full.drop (q + 1) := by
      have : (full.drop q).tail = rs := by rw [← hrs]; rfl
      rw [← this]; simp
    have htake : full.take (q + 1) = full.take q ++ [r] := by
      rw [List.take_add_one, hq]; rfl
    have hcnt : (full.take (q + 1)).countP (fun r => r.cls.steps) = m + if r.cls.steps then 1 else 0 := by
      rw [htake, List.countP_append, ← hm]; simp [List.countP_cons]
    simp only [altOf] at h
    cases hc : r.cls with
    | swap =>
      rw [hc] at h
      simp only at h
      split at h
      · rename_i p kp hnone
        obtain ⟨j, h1, h2, h3, h4, h5⟩ := hp p kp rfl
        split at h
        · rename_i n a x n0 a0 x0 g1 g2 g3 g4
          split at h
          · rename_i id e off dx id0 e0 off0 v1 v2 v3
            split at h
            · cases h
            · rename_i hne
              obtain ⟨own1, hst, h⟩ := some1 h
              simp only [Option.some.injEq, Prod.mk.injEq] at h
              obtain ⟨rfl, rfl⟩ := h
              refine ⟨q, r, j, p, n, a, x, n0, a0, x0, id, e, off, dx, id0, e0, off0, hq, hc, h2, h3, h1, h4.symm, by rw [← hm, h5], g1, g2, g3, g4, v1, v2, v3, hne, hst, ?_⟩
              intro i' r' hi' hc'
              rcases Nat.lt_trichotomy i' q with hlt | heq | hgt
              · exact absurd hc' (hns r' (List.mem_iff_getElem?.2 ⟨i', by rw [List.getElem?_take, if_pos hlt]; exact hi'⟩))
              · exact heq
              · refine absurd hc' (altOf_none hnone r' (List.mem_iff_getElem?.2 ⟨i' - (q + 1), ?_⟩))
                rw [hrs', List.getElem?_drop, show q + 1 + (i' - (q + 1)) = i' by omega]; exact hi'
          · cases h
        · cases h
      · cases h
    | step =>
      rw [hc] at h
      refine altOf_some full rs (q + 1) (m + 1) (some (r, m)) hrs' (by rw [hcnt, hc]; rfl) ?_ ?_ h
      · intro x hx; rw [htake] at hx
        rcases List.mem_append.1 hx with hx | hx
        · exact hns x hx
        · simp only [List.mem_singleton] at hx; subst hx; rw [hc]; simp
      · intro p kp hpk
        simp only [Option.some.injEq, Prod.mk.injEq] at hpk
        obtain ⟨rfl, rfl⟩ := hpk
        exact ⟨q, by omega, hq, hc, hm, rfl⟩
    | fill t ty n =>
      rw [hc] at h
      refine altOf_some full rs (q + 1) (m + 1) none hrs' (by rw [hcnt, hc]; rfl) ?_ (by intro p kp hpk; cases hpk) h
      · intro x hx; rw [htake] at hx
        rcases List.mem_append.1 hx with hx | hx
        · exact hns x hx
        · simp only [List.mem_singleton] at hx; subst hx; rw [hc]; simp
    | look lo hi =>
      rw [hc] at h
      refine altOf_some full rs (q + 1) m prev hrs' (by rw [hcnt, hc]; rfl) ?_ ?_ h
      · intro x hx; rw [htake] at hx
        rcases List.mem_append.1 hx with hx | hx
        · exact hns x hx
        · simp only [List.mem_singleton] at hx; subst hx; rw [hc]; simp
      · intro p kp hpk
        obtain ⟨j, h1, h2⟩ := hp p kp hpk
        exact ⟨j, by omega, h2⟩
    | var =>
      rw [hc] at h
      refine altOf_some full rs (q + 1) m prev hrs' (by rw [hcnt, hc]; rfl) ?_ ?_ h
      · intro x hx; rw [htake] at hx
        rcases List.mem_append.1 hx with hx | hx
        · exact hns x hx
        · simp only [List.mem_singleton] at hx; subst hx; rw [hc]; simp
      · intro p kp hpk
        obtain ⟨j, h1, h2⟩ := hp p kp hpk
        exact ⟨j, by omega, h2⟩
end

/-! ### Two stores -/
def dst1 (n i off : Nat) (x : D) : Option Obj → Option Obj
  | some (.arr ty size xs) =>
    match xs[i]?, x.cells? with
    | some y, some vs =>
      match y.cells? with
      | some cs =>
        if vs.length = n ∧ off + n ≤ cs.length then
          match y with
          | .agg _ => some (.arr ty size (xs.set i (.agg (cs.take off ++ (vs ++ cs.drop (off + n))))))
          | _ => if n = 1 then some (.arr ty size (xs.set i x)) else none
        else none
      | none => none
    | _, _ => none
  | _ => none
theorem dstore_eq (own : Tr Obj) (n id i off : Nat) (x : D) : dstore own n (.ptr id i off) x = (dst1 n i off x (own.get id)).map fun o => own.put id (some o) := by
  simp only [dstore, dst1]
  cases own.get id with
  | none => rfl
  | some o =>
    cases o with
    | arr ty size xs =>
      simp only
      cases xs[i]? with
      | none => rfl
      | some y =>
        cases x.cells? with
        | none => rfl
        | some vs =>
          simp only
          cases y.cells? with
          | none => rfl
          | some cs =>
            simp only
            split
            · cases y <;> first | rfl | (simp only; split <;> rfl)
            · rfl
    | _ => rfl
theorem store_comm {own own1 own2 own3 : Tr Obj} {n id i off n0 id0 i0 off0 : Nat} {x x0 : D} (hne : id ≠ id0) (h1 : dstore own n (.ptr id i off) x = some own1) (h2 : dstore own n0 (.ptr id0 i0 off0) x0 = some own2) (h3 : dstore own2 n (.ptr id i off) x = some own3) :
    ∃ own4, dstore own1 n0 (.ptr id0 i0 off0) x0 = some own4 ∧ ∀ k, own3.get k = own4.get k := by
  rw [dstore_eq] at h1 h2 h3
  simp only [Option.map_eq_some_iff] at h1 h2 h3
  obtain ⟨o1, g1, rfl⟩ := h1
  obtain ⟨o2, g2, rfl⟩ := h2
  obtain ⟨o3, g3, rfl⟩ := h3
  rw [Tr.get_put_ne _ _ hne, g1] at g3
  simp only [Option.some.injEq] at g3; subst g3
  refine ⟨(own.put id (some o1)).put id0 (some o2), ?_, ?_⟩
  · rw [dstore_eq, Tr.get_put_ne _ _ (Ne.symm hne), g2]; rfl
  · intro k
    simp only [Tr.get_put]
    by_cases ha : k = id
    · subst ha; simp [hne]
    · by_cases hb : k = id0 <;> simp [ha, hb, Ne.symm hne]
end Gv
