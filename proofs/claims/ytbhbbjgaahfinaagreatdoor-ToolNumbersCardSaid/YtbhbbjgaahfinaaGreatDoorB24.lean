/- Part of the proof of ToolNumbers by an evaluator that is proved sound: B24. No condition of its own. -/
import Derived.Test.YtbhbbjgaahfinaaGreatDoorB23
set_option linter.unusedVariables false
set_option linter.unusedSimpArgs false
/-! Regions that draw their order: what the evaluator found is a plan. -/
namespace Gv
open Go
set_option linter.unusedVariables false

section
variable {P : Program} {G : Glob} {T : Tab} {self : IC → St → Option (DX × St)} {nt : Nat} {ops : Array Oper} {bs : List Nat} {rs : List Rec} {f : St3} {alt : Option (Nat × Tr Obj)}

/-- All that is known of a region that was evaluated. -/
structure Found (P : Program) (G : Glob) (T : Tab) (sf : IC → St → Option (DX × St)) (nt : Nat) (ops : Array Oper) (bs : List Nat) (rs : List Rec) (f : St3) (alt : Option (Nat × Tr Obj)) : Prop where
  cins : ∀ (i : Nat) (o : Oper) (r : Rec), ops[i]? = some o → rs[i]? = some r → cins P G nt (dstOf ops) o = some r.ins
  fc : Facts ops bs rs
  tr : ∀ k r, rs[k]? = some r → ddraw1 T sf r.ins r.cls r.E r.own r.next = some (r.d, stAt rs f (k + 1))
  halt : altOf rs 0 none = some alt
  hlk : ∀ r ∈ rs, lkOK (statesOf rs f.2.1 f.2.2) alt r = true

theorem Found.get (fd : Found P G T self nt ops bs rs f alt) {i : Nat} (hi : i < ops.size) : ∃ r, rs[i]? = some r := ⟨rs[i]'(by rw [fd.fc.len]; exact hi), by simp [fd.fc.len, hi]⟩
theorem Found.oper (fd : Found P G T self nt ops bs rs f alt) {i : Nat} {r : Rec} (hr : rs[i]? = some r) : ∃ o, ops[i]? = some o := by
  have := (List.getElem?_eq_some_iff.1 hr).1
  rw [fd.fc.len] at this
  exact ⟨ops[i], by simp [this]⟩
theorem Found.lt (fd : Found P G T self nt ops bs rs f alt) {i : Nat} {r : Rec} (hr : rs[i]? = some r) : i < ops.size := by
  have := (List.getElem?_eq_some_iff.1 hr).1
  rw [fd.fc.len] at this; exact this

theorem Found.still (fd : Found P G T self nt ops bs rs f alt) : ∀ k r, rs[k]? = some r → r.cls.steps = false → (stAt rs f (k + 1)).2 = (r.own, r.next) := fun k r hr hc => ddraw1_still (fd.tr k r hr) hc

theorem Found.SF (fd : Found P G T self nt ops bs rs f alt) {k : Nat} (hk : k ≤ rs.length) : (mkPlan ops bs rs f alt).S (scOf rs k, false) = (stAt rs f k).2 := by
  have := statesOf_get (f := f) rs fd.still k hk
  simp only [mkPlan]
  rw [List.getD_eq_getElem?_getD]
  have e : (rs.take k).countP (fun r => r.cls.steps) = scOf rs k := rfl
  rw [e] at this
  rw [this]; rfl
theorem Found.S1 (fd : Found P G T self nt ops bs rs f alt) {k : Nat} {r : Rec} (hr : rs[k]? = some r) : (mkPlan ops bs rs f alt).S (scOf rs k, false) = (r.own, r.next) := by
  rw [fd.SF (Nat.le_of_lt (List.getElem?_eq_some_iff.1 hr).1)]
  simp [stAt, hr]
theorem Found.back (fd : Found P G T self nt ops bs rs f alt) : ∀ i j, i < ops.size → hasB bs i j = true → j < i := by
  intro i
  induction i using Nat.strongRecOn with
  | _ i ih =>
    intro j hi hb
    obtain ⟨e, he, hbi, hh⟩ := (fd.fc.bit i ops[i] (by simp [hi]) j).1 hb
    have hlt := fd.fc.on i ops[i] (by simp [hi]) e he hbi
    rcases hh with rfl | hh
    · exact hlt
    · have := ih e.on hlt j (by omega) hh; omega

theorem Found.pair (fd : Found P G T self nt ops bs rs f alt) {k : Nat} {own' : Tr Obj} (h : alt = some (k, own')) : Pair rs k own' := by
  have := fd.halt
  rw [h] at this
  exact altOf_some rs rs 0 0 none (by simp) (by simp) (by simp) (by intro p kp hh; cases hh) this
theorem Found.swap_alt (fd : Found P G T self nt ops bs rs f alt) {i : Nat} {r : Rec} (hr : rs[i]? = some r) (hc : r.cls = .swap) : ∃ k own', alt = some (k, own') := by
  cases ha : alt with
  | none =>
    have := fd.halt
    rw [ha] at this
    exact absurd hc (altOf_none this r (List.mem_of_getElem? hr))
  | some q => exact ⟨q.1, q.2, rfl⟩

theorem sc_inj {i j : Nat} {ri rj : Rec} (hi : rs[i]? = some ri) (hj : rs[j]? = some rj) (si : ri.cls.steps = true) (sj : rj.cls.steps = true) (h : scOf rs i = scOf rs j) : i = j := by
  rcases Nat.lt_trichotomy i j with hlt | heq | hgt
  · have := sc_lt hi si hlt; omega
  · exact heq
  · have := sc_lt hj sj hgt; omega

/-- Which step may come up. -/
theorem Found.next (fd : Found P G T self nt ops bs rs f alt) {L : Nat → Bool} {x : SX} (hm : (mkPlan ops bs rs f alt).Mt L x) {i : Nat} {r : Rec} (hr : rs[i]? = some r) (hs : r.cls.steps = true) (rd : Rdy ops (mkPlan ops bs rs f alt) L i) :
    scOf rs i = x.1 ∨ (x.2 = false ∧ r.cls = .swap ∧ scOf rs i = x.1 + 1) := by
  obtain ⟨o, ho⟩ := fd.oper hr
  have hi := fd.lt hr
  obtain ⟨m, b⟩ := x
  -- a step with m ahead is not listed
  have key : m < scOf rs i → (∀ q rq, rs[q]? = some rq → rq.cls.steps = true → scOf rs q = m → L q = false) → r.cls = .swap ∧ scOf rs i = m + 1 := by
    intro hlt hun
    obtain ⟨q, rq, hqi, hq, hqs, hqm⟩ := sc_exists (rs := rs) i (Nat.le_of_lt (List.getElem?_eq_some_iff.1 hr).1) m hlt
    obtain ⟨oq, hoq⟩ := fd.oper hq
    obtain ⟨_, h2⟩ := fd.fc.pair i q o oq r rq ho hoq hr hq (by omega)
    rcases h2 hs hqs (by omega) with h2 | ⟨h2, _, h3⟩
    · have := rd.bef q ⟨hi, h2⟩
      rw [hun q rq hq hqs hqm] at this; cases this
    · exact ⟨h2, by omega⟩
  cases b with
  | false =>
    have hm := hm.2
    have h1 := hm i r hr hs
    rw [rd.un] at h1
    have hge : m ≤ scOf rs i := by
      rcases Nat.lt_or_ge (scOf rs i) m with h | h
      · exact absurd (h1.2 h) (by simp)
      · exact h
    by_cases he : scOf rs i = m
    · exact .inl he
    · refine .inr ⟨rfl, key (by omega) ?_⟩
      intro q rq hq hqs hqm
      have := hm q rq hq hqs
      cases hL : L q with
      | false => rfl
      | true => have := this.1 hL; omega
  | true =>
    obtain ⟨⟨own', ha⟩, hm⟩ := hm
    have h1 := hm i r hr hs
    rw [rd.un] at h1
    have hge : ¬ (scOf rs i < m ∨ scOf rs i = m + 1) := fun h => absurd (h1.2 h) (by simp)
    by_cases he : scOf rs i = m
    · exact .inl he
    · exfalso
      obtain ⟨_, h3⟩ := key (by omega) (by
        intro q rq hq hqs hqm
        have := hm q rq hq hqs
        cases hL : L q with
        | false => rfl
        | true => rcases this.1 hL with h | h <;> omega)
      omega

theorem itm {os : List Oper} {y : DItem} (hy : y ∈ mkItems os (rs.map fun r => (r.ins, r.cls)) 0 0) : ∃ r, rs[y.k]? = some r ∧ os[y.k]? = some y.o ∧ y.i = r.ins ∧ y.c = r.cls ∧ y.s = scOf rs y.k := by
  obtain ⟨i, x, h1, h2, h3, h4, h5, h6⟩ := mkItems_inv hy
  rw [scOf_eq] at h6
  simp only [List.getElem?_map, Option.map_eq_some_iff] at h2
  obtain ⟨r, h7, rfl⟩ := h2
  obtain rfl : y.k = i := by omega
  exact ⟨r, h7, h1, h3, h4, by omega⟩

theorem items_tot : ∀ (os : List Oper) (is : List (Ins × Cls)) (k s : Nat), os.length = is.length → (mkItems os is k s).countP (fun y => y.c.steps) = is.countP (fun x => x.2.steps)
  | [], is, k, s, h => by
    cases is with
    | nil => rfl
    | cons x xs => simp at h
  | o :: os, is, k, s, h => by
    cases is with
    | nil => simp at h
    | cons x is =>
      obtain ⟨i, c⟩ := x
      simp only [mkItems, List.countP_cons]
      rw [items_tot os is _ _ (by simpa using h)]

theorem Found.tot (fd : Found P G T self nt ops bs rs f alt) : (mkItems ops.toList (rs.map fun r => (r.ins, r.cls)) 0 0).countP (fun y => y.c.steps) = scOf rs rs.length := by
  rw [items_tot _ _ _ _ (by simp [fd.fc.len])]
  have := scOf_eq rs rs.length
  rw [← this, List.take_of_length_le (by simp)]

/-- At how many steps one that looks may come up. -/
theorem Found.counts (fd : Found P G T self nt ops bs rs f alt) {L : Nat → Bool} {x : SX} (hm : (mkPlan ops bs rs f alt).Mt L x) {i lo hi : Nat} {r : Rec} (hr : rs[i]? = some r) (hc : r.cls = .look lo hi) (hbef : ∀ j, hasB bs i j = true → L j = true) (haft : ∀ j, j < ops.size → L j = true → hasB bs j i = false) :
    lo ≤ x.1 + (if x.2 then 1 else 0) ∧ x.1 + (if x.2 then 1 else 0) ≤ hi := by
  obtain ⟨hlo, hhi⟩ := fd.fc.look i r lo hi hr hc
  have htot := fd.tot
  obtain ⟨m, b⟩ := x
  have jlt : ∀ {y : DItem} {r : Rec}, rs[y.k]? = some r → y.k < ops.size := fun h => fd.lt h
  cases b with
  | false =>
    obtain ⟨hmt, hm⟩ := hm
    simp only [Bool.false_eq_true, if_false, Nat.add_zero]
    have h1 : (mkItems ops.toList (rs.map fun r => (r.ins, r.cls)) 0 0).countP (fun y => y.c.steps && hasB bs i y.k) ≤ (mkItems ops.toList (rs.map fun r => (r.ins, r.cls)) 0 0).countP (fun y => y.c.steps && decide (y.s < m)) := by
      refine List.countP_mono_left fun y hy h => ?_
      obtain ⟨r', g1, _, _, g3, g4⟩ := itm hy
      simp only [Bool.and_eq_true, decide_eq_true_eq] at h ⊢
      refine ⟨h.1, ?_⟩
      rw [g4]; exact (hm y.k r' g1 (by rw [← g3]; exact h.1)).1 (hbef y.k h.2)
    have h2 := items_lt m ops.toList (rs.map fun r => (r.ins, r.cls)) 0 0
    have h3 : (mkItems ops.toList (rs.map fun r => (r.ins, r.cls)) 0 0).countP (fun y => y.c.steps && hasB bs y.k i) ≤ (mkItems ops.toList (rs.map fun r => (r.ins, r.cls)) 0 0).countP (fun y => y.c.steps && decide (m ≤ y.s)) := by
      refine List.countP_mono_left fun y hy h => ?_
      obtain ⟨r', g1, _, _, g3, g4⟩ := itm hy
      simp only [Bool.and_eq_true, decide_eq_true_eq] at h ⊢
      refine ⟨h.1, ?_⟩
      rw [g4]
      rcases Nat.lt_or_ge (scOf rs y.k) m with hlt | hge
      · have := haft y.k (jlt g1) ((hm y.k r' g1 (by rw [← g3]; exact h.1)).2 hlt)
        rw [h.2] at this; cases this
      · exact hge
    have h4 := items_ge m ops.toList (rs.map fun r => (r.ins, r.cls)) 0 0
    omega
  | true =>
    obtain ⟨⟨own', ha⟩, hm⟩ := hm
    simp only [if_true]
    obtain ⟨i1, r1, j1, p1, _, _, _, _, _, _, _, _, _, _, _, _, _, q1, q2, q3, q4, q5, q6, q7, _⟩ := (fd.pair ha).ex
    have hbig : m + 2 ≤ scOf rs rs.length := by
      have := sc_lt (rs := rs) q1 (by rw [q2]; rfl) (List.getElem?_eq_some_iff.1 q1).1
      have e : scOf rs i1 = m + 1 := q7
      omega
    have h1 : (mkItems ops.toList (rs.map fun r => (r.ins, r.cls)) 0 0).countP (fun y => y.c.steps && hasB bs i y.k) ≤ (mkItems ops.toList (rs.map fun r => (r.ins, r.cls)) 0 0).countP (fun y => (y.c.steps && decide (y.s < m)) || (y.c.steps && decide (y.s = m + 1))) := by
      refine List.countP_mono_left fun y hy h => ?_
      obtain ⟨r', g1, _, _, g3, g4⟩ := itm hy
      simp only [Bool.and_eq_true, Bool.or_eq_true, decide_eq_true_eq] at h ⊢
      rw [g4]
      rcases (hm y.k r' g1 (by rw [← g3]; exact h.1)).1 (hbef y.k h.2) with hh | hh
      · exact .inl ⟨h.1, hh⟩
      · exact .inr ⟨h.1, hh⟩
    have h1b := countP_or_le (fun y : DItem => y.c.steps && decide (y.s < m)) (fun y => y.c.steps && decide (y.s = m + 1)) (mkItems ops.toList (rs.map fun r => (r.ins, r.cls)) 0 0)
    have h2 := items_lt m ops.toList (rs.map fun r => (r.ins, r.cls)) 0 0
    have h2b := items_eq (m + 1) ops.toList (rs.map fun r => (r.ins, r.cls)) 0 0
    have h3 : (mkItems ops.toList (rs.map fun r => (r.ins, r.cls)) 0 0).countP (fun y => y.c.steps && hasB bs y.k i) ≤ (mkItems ops.toList (rs.map fun r => (r.ins, r.cls)) 0 0).countP (fun y => (y.c.steps && decide (m + 2 ≤ y.s)) || (y.c.steps && decide (y.s = m))) := by
      refine List.countP_mono_left fun y hy h => ?_
      obtain ⟨r', g1, _, _, g3, g4⟩ := itm hy
      simp only [Bool.and_eq_true, Bool.or_eq_true, decide_eq_true_eq] at h ⊢
      rw [g4]
      have hno : ¬ (scOf rs y.k < m ∨ scOf rs y.k = m + 1) := fun hh => by
        have := haft y.k (jlt g1) ((hm y.k r' g1 (by rw [← g3]; exact h.1)).2 hh)
        rw [h.2] at this; cases this
      by_cases he : scOf rs y.k = m
      · exact .inr ⟨h.1, he⟩
      · exact .inl ⟨h.1, by omega⟩
    have h3b := countP_or_le (fun y : DItem => y.c.steps && decide (m + 2 ≤ y.s)) (fun y => y.c.steps && decide (y.s = m)) (mkItems ops.toList (rs.map fun r => (r.ins, r.cls)) 0 0)
    have h4 := items_ge (m + 2) ops.toList (rs.map fun r => (r.ins, r.cls)) 0 0
    have h4b := items_eq m ops.toList (rs.map fun r => (r.ins, r.cls)) 0 0
    simp only [Nat.zero_le, if_true] at h2b h4b
    omega

theorem Found.look (fd : Found P G T self nt ops bs rs f alt) {L : Nat → Bool} {x : SX} (hm : (mkPlan ops bs rs f alt).Mt L x) {i lo hi : Nat} {r : Rec} (hr : rs[i]? = some r) (hc : r.cls = .look lo hi) (rd : Rdy ops (mkPlan ops bs rs f alt) L i) :
    dlook ((mkPlan ops bs rs f alt).S x).1 r.E r.ins = some r.d := by
  have hi' := fd.lt hr
  have htr := fd.tr i r hr
  rw [hc] at htr
  simp only [ddraw1] at htr
  obtain ⟨d, h1, htr⟩ := some1 htr
  simp only [Option.some.injEq, Prod.mk.injEq] at htr
  obtain ⟨rfl, _⟩ := htr
  have hk := fd.hlk r (List.mem_of_getElem? hr)
  unfold lkOK at hk
  rw [hc] at hk
  simp only at hk
  split at hk
  · rename_i hst
    rw [stateless_look hst (own' := r.own)]; exact h1
  · obtain ⟨c1, c2⟩ := fd.counts hm hr hc (fun j hb => rd.bef j ⟨hi', hb⟩) (fun j hj hL => by
      cases hb : hasB bs j i with
      | false => rfl
      | true => exact absurd ⟨hj, hb⟩ (rd.aft j hj hL))
    -- in the text's order
    have hm0 : (mkPlan ops bs rs f alt).Mt (fun j => decide (j < i)) (scOf rs i, false) := by
      refine ⟨sc_mono (Nat.le_of_lt (List.getElem?_eq_some_iff.1 hr).1), fun j rj hj hs => ?_⟩
      simp only [decide_eq_true_eq]
      constructor
      · exact fun h => sc_lt hj hs h
      · intro h
        rcases Nat.lt_or_ge j i with hlt | hge
        · exact hlt
        · have := sc_mono (rs := rs) hge; omega
    obtain ⟨e1, e2⟩ := fd.counts hm0 hr hc (fun j hb => by simpa using fd.back i j hi' hb) (fun j hj hL => by
      cases hb : hasB bs j i with
      | false => rfl
      | true =>
        have := fd.back j i hj hb
        simp at hL; omega)
    simp only [Bool.false_eq_true, if_false, Nat.add_zero] at e1 e2
    simp only [Bool.and_eq_true] at hk
    obtain ⟨hk1, hk2⟩ := hk
    obtain ⟨m, b⟩ := x
    cases b with
    | false =>
      simp only [Bool.false_eq_true, if_false, Nat.add_zero] at c1 c2
      split at hk1
      · rename_i heq
        obtain rfl : m = scOf rs i := by omega
        rw [fd.S1 hr]; exact h1
      · obtain ⟨own, nx, g1, g2⟩ := lkAt_get hk1 (m - lo) (by omega)
        rw [show lo + (m - lo) = m by omega] at g1
        have : (mkPlan ops bs rs f alt).S (m, false) = (own, nx) := by
          simp only [mkPlan, List.getD_eq_getElem?_getD, g1, Option.getD_some]
        rw [this]; exact lkSame_eq g2
    | true =>
      simp only [if_true] at c1 c2
      obtain ⟨⟨own', ha⟩, _⟩ := hm
      rw [ha] at hk2
      simp only at hk2
      rw [if_pos ⟨c1, c2⟩] at hk2
      have : ((mkPlan ops bs rs f alt).S (m, true)).1 = own' := by simp [mkPlan, ha]
      rw [this]; exact lkSame_eq hk2

theorem mt_next (fd : Found P G T self nt ops bs rs f alt) {L : Nat → Bool} {i : Nat} {r : Rec} (hr : rs[i]? = some r) (hs : r.cls.steps = true) (hm : (mkPlan ops bs rs f alt).Mt L (scOf rs i, false)) : (mkPlan ops bs rs f alt).Mt (withI L i) (scOf rs i + 1, false) := by
  obtain ⟨h1, h2⟩ := hm
  refine ⟨?_, fun j rj hj sj => ?_⟩
  · have := sc_succ hr
    rw [hs] at this
    have h3 := sc_mono (rs := rs) (show i + 1 ≤ rs.length from (List.getElem?_eq_some_iff.1 hr).1)
    simp at this; omega
  · by_cases hji : j = i
    · subst hji; simp [withI]
    · rw [withI_ne hji, h2 j rj hj sj]
      constructor
      · intro h; omega
      · intro h
        rcases Nat.lt_or_ge (scOf rs j) (scOf rs i) with hlt | hge
        · exact hlt
        · exact absurd (sc_inj hj hr sj hs (by omega)) hji

/-- A store, in a region. -/
theorem stepAt_store {E : Tr D} {own : Tr Obj} {next : Nat} {i : Ins} {n : Nat} {a x : Opd} (ho : i.op = .store n a x) (hg : i.guard = none) {da dx : D} (ha : ev E a = some da) (hx : ev E x = some dx) :
    stepAt T self E own next i = (dstore own n da dx).map fun own' => (.junk, own', next) := by
  simp only [stepAt, hg, dguard, ho, dstep, dplain, dpure, dimp, ha, hx, b2, b1]
  cases dstore own n da dx <;> rfl

theorem Found.step (fd : Found P G T self nt ops bs rs f alt) {L : Nat → Bool} {x : SX} (hm : (mkPlan ops bs rs f alt).Mt L x) {i : Nat} {r : Rec} (hr : rs[i]? = some r) (hc : r.cls = .step ∨ r.cls = .swap) (rd : Rdy ops (mkPlan ops bs rs f alt) L i) :
    ∃ y own', (mkPlan ops bs rs f alt).Mt (withI L i) y ∧ stepAt T self r.E ((mkPlan ops bs rs f alt).S x).1 ((mkPlan ops bs rs f alt).S x).2 r.ins = some (r.d, own', ((mkPlan ops bs rs f alt).S y).2) ∧ ∀ id, ((mkPlan ops bs rs f alt).S y).1.get id = own'.get id := by
  have hs : r.cls.steps = true := by rcases hc with h | h <;> rw [h] <;> rfl
  -- the step in the text's order
  have tr : ∀ {i : Nat} {r : Rec}, rs[i]? = some r → (r.cls = .step ∨ r.cls = .swap) → stepAt T self r.E r.own r.next r.ins = some (r.d, (stAt rs f (i + 1)).2) := by
    intro i r hr hc
    have htr := fd.tr i r hr
    rcases hc with hc | hc
    all_goals
      rw [hc] at htr
      simp only [ddraw1] at htr
      split at htr
      · rename_i d own' next' hst
        simp only [Option.some.injEq, Prod.mk.injEq] at htr
        obtain ⟨rfl, htr⟩ := htr
        rw [hst, ← htr]
      · cases htr
  have sf1 : ∀ {i : Nat} {r : Rec}, rs[i]? = some r → r.cls.steps = true → (mkPlan ops bs rs f alt).S (scOf rs i + 1, false) = (stAt rs f (i + 1)).2 := by
    intro i r hr hs
    have h1 := fd.SF (k := i + 1) (List.getElem?_eq_some_iff.1 hr).1
    have h2 := sc_succ hr
    rw [hs] at h2
    simp at h2
    rw [← h2]; exact h1
  have hnx := fd.next hm hr hs rd
  obtain ⟨m, b⟩ := x
  cases b with
  | false =>
    rcases hnx with hnx | ⟨_, hsw, hnx⟩
    · simp only at hnx; subst hnx
      refine ⟨(scOf rs i + 1, false), (stAt rs f (i + 1)).2.1, mt_next fd hr hs hm, ?_, ?_⟩
      · rw [fd.S1 hr, tr hr hc, sf1 hr hs]
      · rw [sf1 hr hs]; exact fun _ => rfl
    · simp only at hnx
      obtain ⟨k, own', ha⟩ := fd.swap_alt hr hsw
      obtain ⟨i1, r1, j1, p1, n, a, x, n0, a0, x0, id, e, off, dx, id0, e0, off0, q1, q2, q3, q4, q5, q6, q7, q8, q9, q10, q11, q12, q13, q14, q15, q16, q17⟩ := (fd.pair ha).ex
      obtain rfl := q17 i r hr hsw
      rw [hr] at q1
      obtain rfl : r = r1 := by simpa using q1
      have hk : k = m := by
        have : scOf rs i = k + 1 := q7
        omega
      subst hk
      have hkj : scOf rs j1 = k := q6
      refine ⟨(k, true), own', ⟨⟨own', ha⟩, fun j rj hj sj => ?_⟩, ?_, ?_⟩
      · by_cases hji : j = i
        · subst hji; simp [withI]; right; exact hnx
        · rw [withI_ne hji, hm.2 j rj hj sj]
          constructor
          · exact fun h => .inl h
          · rintro (h | h)
            · exact h
            · exact absurd (sc_inj hj hr sj hs (by omega)) hji
      · have hS : (mkPlan ops bs rs f alt).S (k, false) = (p1.own, p1.next) := by rw [← hkj]; exact fd.S1 q3
        have hS2 : ((mkPlan ops bs rs f alt).S (k, true)).2 = p1.next := by
          have : ((mkPlan ops bs rs f alt).S (k, true)).2 = ((mkPlan ops bs rs f alt).S (k, false)).2 := rfl
          rw [this, hS]
        rw [hS, hS2, stepAt_store q8 q9 q12 q13, q16]
        have htr := tr hr hc
        rw [stepAt_store q8 q9 q12 q13] at htr
        simp only [Option.map_eq_some_iff] at htr
        obtain ⟨_, _, htr⟩ := htr
        simp only [Prod.mk.injEq] at htr
        rw [← htr.1]; rfl
      · intro id
        have : ((mkPlan ops bs rs f alt).S (k, true)).1 = own' := by simp [mkPlan, ha]
        rw [this]
  | true =>
    obtain ⟨⟨own', ha⟩, hm⟩ := hm
    rcases hnx with hnx | ⟨hh, _⟩
    · simp only at hnx
      obtain ⟨i1, r1, j1, p1, n, a, x, n0, a0, x0, id, e, off, dx, id0, e0, off0, q1, q2, q3, q4, q5, q6, q7, q8, q9, q10, q11, q12, q13, q14, q15, q16, q17⟩ := (fd.pair ha).ex
      have hkj : scOf rs j1 = m := q6
      have hki : scOf rs i1 = m + 1 := q7
      obtain rfl := sc_inj hr q3 hs (by rw [q4]; rfl) (by omega)
      rw [hr] at q3
      obtain rfl : r = p1 := by simpa using q3
      -- the two stores in the text's order
      have t1 := tr hr hc
      have t2 := tr q1 (.inr q2)
      have hx0 : ∃ dx0, ev r.E x0 = some dx0 := by
        simp only [stepAt, q11, dguard, q10, dstep, dplain, dpure, dimp, q14, b2] at t1
        cases hx : ev r.E x0 with
        | none => rw [hx] at t1; simp [ok3] at t1
        | some d => exact ⟨d, rfl⟩
      obtain ⟨dx0, hx0⟩ := hx0
      rw [stepAt_store q10 q11 q14 hx0] at t1
      rw [stepAt_store q8 q9 q12 q13] at t2
      simp only [Option.map_eq_some_iff, Prod.mk.injEq] at t1 t2
      obtain ⟨o2, g2, hd2, hw2⟩ := t1
      obtain ⟨o3, g3, hd3, hw3⟩ := t2
      -- the state between
      have hmid : (r1.own, r1.next) = (stAt rs f (i + 1)).2 := by
        have h1 := fd.S1 q1
        rw [hki, ← hkj] at h1
        rw [← h1]; exact sf1 hr hs
      rw [← hw2] at hmid
      simp only [Prod.mk.injEq] at hmid
      rw [hmid.1] at g3
      obtain ⟨o4, g4, heq⟩ := store_comm q15 q16 g2 g3
      have hfin : (mkPlan ops bs rs f alt).S (m + 2, false) = (o3, r.next) := by
        have := sf1 q1 (by rw [q2]; rfl)
        rw [hki] at this
        rw [show m + 2 = m + 1 + 1 from rfl, this, ← hw3, hmid.2]
      have hSx : (mkPlan ops bs rs f alt).S (m, true) = (own', r.next) := by
        have h1 : ((mkPlan ops bs rs f alt).S (m, true)).1 = own' := by simp [mkPlan, ha]
        have h2 : ((mkPlan ops bs rs f alt).S (m, true)).2 = ((mkPlan ops bs rs f alt).S (m, false)).2 := rfl
        have h3 := fd.S1 hr
        rw [hkj] at h3
        rw [h3] at h2
        exact Prod.ext h1 h2
      refine ⟨(m + 2, false), o4, ⟨?_, fun j rj hj sj => ?_⟩, ?_, ?_⟩
      · have := sc_lt (rs := rs) q1 (by rw [q2]; rfl) (List.getElem?_eq_some_iff.1 q1).1
        omega
      · by_cases hji : j = i
        · subst hji; simp [withI]; omega
        · rw [withI_ne hji, hm j rj hj sj]
          constructor
          · rintro (h | h) <;> omega
          · intro h
            rcases Nat.lt_trichotomy (scOf rs j) m with hlt | heq | hgt
            · exact .inl hlt
            · exact absurd (sc_inj hj hr sj hs (by omega)) hji
            · exact .inr (by omega)
      · rw [hSx, stepAt_store q10 q11 q14 hx0, g4, hfin, ← hd2]; rfl
      · intro k; rw [hfin]; exact heq k
    · cases hh

theorem mkVi_some {items : List DItem} {v : VI} (h : mkVi items = some v) : ∃ x y n t ty, items.filter (fun x => isVar x.c) = [x] ∧ items.filter (fun x => isFill x.c) = [y] ∧ y.c = .fill t ty n ∧ v = ⟨x.k, y.k, t, ty, n⟩ := by
  unfold mkVi at h
  split at h
  · rename_i x y h1 h2
    split at h
    · rename_i t ty n hc
      simp only [Option.some.injEq] at h
      exact ⟨x, y, n, t, ty, h1, h2, hc, h.symm⟩
    · cases h
  · cases h

theorem item_mem (fd : Found P G T self nt ops bs rs f alt) {i : Nat} {o : Oper} {r : Rec} (ho : ops[i]? = some o) (hr : rs[i]? = some r) : (⟨o, r.ins, r.cls, i, scOf rs i⟩ : DItem) ∈ mkItems ops.toList (rs.map fun r => (r.ins, r.cls)) 0 0 := by
  have := mkItems_mem (os := ops.toList) (is := rs.map fun r => (r.ins, r.cls)) (k := 0) (s := 0) (i := i) (o := o) (x := (r.ins, r.cls)) (by simpa using ho) (by simp [hr])
  rw [scOf_eq] at this
  simpa using this

theorem Found.var1 (fd : Found P G T self nt ops bs rs f alt) {i : Nat} {r : Rec} (hr : rs[i]? = some r) (hc : isVar r.cls = true ∨ isFill r.cls = true) : ∃ v, mkVi (mkItems ops.toList (rs.map fun r => (r.ins, r.cls)) 0 0) = some v ∧ (isVar r.cls = true → i = v.iv) ∧ (isFill r.cls = true → i = v.jf) := by
  obtain ⟨o, ho⟩ := fd.oper hr
  have hmem := item_mem fd ho hr
  have hv := fd.fc.var
  unfold varOK at hv
  split at hv
  · rename_i h1 h2
    rcases hc with hc | hc
    · have : (⟨o, r.ins, r.cls, i, scOf rs i⟩ : DItem) ∈ (mkItems ops.toList (rs.map fun r => (r.ins, r.cls)) 0 0).filter (fun x => isVar x.c) := List.mem_filter.2 ⟨hmem, hc⟩
      rw [h1] at this; cases this
    · have : (⟨o, r.ins, r.cls, i, scOf rs i⟩ : DItem) ∈ (mkItems ops.toList (rs.map fun r => (r.ins, r.cls)) 0 0).filter (fun x => isFill x.c) := List.mem_filter.2 ⟨hmem, hc⟩
      rw [h2] at this; cases this
  · rename_i x y h1 h2
    have hfc : isFill y.c = true := by
      have : y ∈ (mkItems ops.toList (rs.map fun r => (r.ins, r.cls)) 0 0).filter (fun x => isFill x.c) := by rw [h2]; exact List.mem_singleton.2 rfl
      exact (List.mem_filter.1 this).2
    obtain ⟨t, ty, n, hyc⟩ : ∃ t ty n, y.c = .fill t ty n := by
      cases hy : y.c <;> rw [hy] at hfc <;> simp [isFill] at hfc
      exact ⟨_, _, _, rfl⟩
    refine ⟨⟨x.k, y.k, t, ty, n⟩, by simp [mkVi, h1, h2, hyc], ?_, ?_⟩
    · intro hc
      have : (⟨o, r.ins, r.cls, i, scOf rs i⟩ : DItem) ∈ (mkItems ops.toList (rs.map fun r => (r.ins, r.cls)) 0 0).filter (fun x => isVar x.c) := List.mem_filter.2 ⟨hmem, hc⟩
      rw [h1, List.mem_singleton] at this
      rw [← this]
    · intro hc
      have : (⟨o, r.ins, r.cls, i, scOf rs i⟩ : DItem) ∈ (mkItems ops.toList (rs.map fun r => (r.ins, r.cls)) 0 0).filter (fun x => isFill x.c) := List.mem_filter.2 ⟨hmem, hc⟩
      rw [h2, List.mem_singleton] at this
      rw [← this]
  · cases hv

theorem fillOK_inv {v w : DItem} {t : Nat} (h : fillOK bs v w = some t) : ∃ ty ty' z cs n t3 x a' x', v.o.op = .alloc ty ∧ v.o.guard = none ∧ v.o.dst = some t ∧ v.i.op = .alloc ty' z ∧ z.cells? = some cs ∧ cs.length = n ∧ w.c = .fill t ty n ∧
    w.o.op = .store t3 (.tmp t) x ∧ w.o.guard = none ∧ w.o.dst = none ∧ x ≠ .tmp t ∧ w.i.op = .store n a' x' ∧ hasB bs w.k v.k = true := by
  unfold fillOK at h
  split at h
  · rename_i ty t0 ty' z t1 ty1 n t3 t2 x n' a' x' e1 e2 e3 e4 e5 e6 e7 e8 e9
    split at h
    · rename_i cs hcs
      split at h
      · rename_i hb
        simp only [Option.some.injEq] at h; subst h
        simp only [Bool.and_eq_true] at hb
        obtain ⟨⟨⟨⟨⟨⟨b1, b2⟩, b3⟩, b4⟩, b5⟩, b6⟩, b7⟩ := hb
        have := Nat.eq_of_beq_eq_true b1
        have c2 := Nat.eq_of_beq_eq_true b2
        have c3 := Nat.eq_of_beq_eq_true b3
        have c4 := Nat.eq_of_beq_eq_true b4
        have c5 := Nat.eq_of_beq_eq_true b5
        subst c2; subst c3; subst c4; subst c5
        refine ⟨_, _, _, _, _, _, _, _, _, e1, e2, e3, e4, hcs, this, e5, e6, e7, e8, ?_, e9, b7⟩
        rintro rfl
        simp [notTmp] at b6
      · cases h
    · cases h
  · cases h

end
end Gv
