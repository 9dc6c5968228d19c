/- Part of the proof of ToolNumbers by an evaluator that is proved sound: B20. No condition of its own. -/
import Derived.Test.YtbhbbjgaahfinaaGreatDoorB19
set_option linter.unusedVariables false
set_option linter.unusedSimpArgs false
/-! Regions that draw their order: a plan, and that every order meets it. -/
namespace Gv
open Go
set_option linter.unusedVariables false

/-- The variable that is made anywhere: its place, its store's, the temporary, the type, how many cells. -/
structure VI where
  iv : Nat
  jf : Nat
  tv : Nat
  ty : Nat
  n : Nat

abbrev SX := Nat × Bool

section
variable (P : Program) (G : Glob) (T : Tab) (sf : IC → St → Option (DX × St)) (nt : Nat) (ops : Array Oper)

structure PlanD where
  is : Nat → Ins
  cl : Nat → Cls
  E : Nat → Tr D
  d : Nat → D
  bef : Nat → Nat → Prop
  vi : Option VI
  S : SX → Tr Obj × Nat
  Mt : (Nat → Bool) → SX → Prop

def withI (L : Nat → Bool) (i : Nat) : Nat → Bool := fun j => if j = i then true else L j

/-- An operation that may come up. -/
structure Rdy (p : PlanD) (L : Nat → Bool) (i : Nat) : Prop where
  un : L i = false
  bef : ∀ j, p.bef i j → L j = true
  aft : ∀ j, j < ops.size → L j = true → ¬ p.bef j i

structure Plan (p : PlanD) (fin : Tr D × Tr Obj × Nat) : Prop where
  cins : ∀ i o, ops[i]? = some o → cins P G nt (dstOf ops) o = some (p.is i)
  bef : ∀ i o, ops[i]? = some o → ∀ j, p.bef i j → ∃ e ∈ o.after, Region.binds .any e = true ∧ (e.on = j ∨ p.bef e.on j)
  edge : ∀ i o, ops[i]? = some o → ∀ e ∈ o.after, Region.binds .any e = true → p.bef i e.on
  back : ∀ i j, i < ops.size → p.bef i j → j < i
  dst : ∀ i j t, i < ops.size → j < ops.size → i ≠ j → edst (p.is j) (p.cl j) = some t → edst (p.is i) (p.cl i) ≠ some t
  use : ∀ i j o t, ops[i]? = some o → j < ops.size → i ≠ j → edst (p.is j) (p.cl j) = some t → t ∈ usesOf ops o → p.bef i j ∨ p.bef j i
  env : ∀ k, k < ops.size → p.E (k + 1) = setDst (p.E k) (edst (p.is k) (p.cl k)) (p.d k)
  last : p.E ops.size = fin.1
  mt0 : p.Mt (fun _ => false) (0, false)
  mtn : ∀ L x, (∀ i, i < ops.size → L i = true) → p.Mt L x → p.S x = fin.2
  look : ∀ i lo hi, i < ops.size → p.cl i = .look lo hi → ∀ L x, p.Mt L x → Rdy ops p L i → dlook (p.S x).1 (p.E i) (p.is i) = some (p.d i)
  step : ∀ i, i < ops.size → (p.cl i = .step ∨ p.cl i = .swap) → ∀ L x, p.Mt L x → Rdy ops p L i → ∃ y own', p.Mt (withI L i) y ∧ stepAt T sf (p.E i) (p.S x).1 (p.S x).2 (p.is i) = some (p.d i, own', (p.S y).2) ∧ ∀ id, (p.S y).1.get id = own'.get id
  still : ∀ i, i < ops.size → (p.cl i).steps = false → ∀ L x, p.Mt L x → p.Mt (withI L i) x
  var : ∀ i, i < ops.size → p.cl i = .var → ∃ v, p.vi = some v ∧ i = v.iv
  fill : ∀ i t ty n, i < ops.size → p.cl i = .fill t ty n → ∃ v, p.vi = some v ∧ i = v.jf
  vi : ∀ v, p.vi = some v → v.iv < ops.size ∧ v.jf < ops.size ∧ p.cl v.iv = .var ∧ p.cl v.jf = .fill v.tv v.ty v.n ∧ p.bef v.jf v.iv ∧
    (∃ o z cs, ops[v.iv]? = some o ∧ o.op = .alloc v.ty ∧ o.guard = none ∧ o.dst = some v.tv ∧ (p.is v.iv).op = .alloc v.ty z ∧ z.cells? = some cs ∧ cs.length = v.n) ∧
    (∃ o t x a' x', ops[v.jf]? = some o ∧ o.op = .store t (.tmp v.tv) x ∧ o.guard = none ∧ o.dst = none ∧ x ≠ .tmp v.tv ∧ (p.is v.jf).op = .store v.n a' x') ∧
    (∀ i o, ops[i]? = some o → i ≠ v.iv → i ≠ v.jf → o.dst ≠ some v.tv ∧ (v.tv ∈ usesOf ops o → p.bef i v.jf))
  fills : ∀ v, p.vi = some v → ∀ L x, p.Mt L x → Rdy ops p L v.jf → ∃ y a' x' dd cs, p.Mt (withI L v.jf) y ∧ (p.is v.jf).op = .store v.n a' x' ∧ ev (p.E v.jf) x' = some dd ∧ dd.cells? = some cs ∧ cs.length = v.n ∧
    p.S y = ((p.S x).1.put (p.S x).2 (some (.arr v.ty v.n [dd])), (p.S x).2 + 1) ∧ p.d v.jf = .ptr (p.S x).2 0 0
end

section
variable {P : Program} {G : Glob} {T : Tab} {self : IC → St → Option (DX × St)} {nt : Nat} {ops : Array Oper} {C : Cx} {h0 : HS} {E0 : Tr D} {dfs : List Dfr} {p : PlanD} {fin : Tr D × Tr Obj × Nat}

def lst (listed : Array Bool) : Nat → Bool := fun i => listed.getD i false

theorem lst_set {listed : Array Bool} {i : Nat} (hi : i < listed.size) : lst (listed.setIfInBounds i true) = withI (lst listed) i := by
  funext j
  simp only [lst, withI]
  by_cases hj : j = i
  · subst hj; rw [if_pos rfl]; simp [Array.getD_eq_getD_getElem?, hi]
  · rw [if_neg hj]; simp only [Array.getD_eq_getD_getElem?]; rw [Array.getElem?_setIfInBounds_ne (fun hh => hj hh.symm)]

theorem withI_mono {L : Nat → Bool} {i j : Nat} (h : L j = true) : withI L i j = true := by
  simp only [withI]
  split
  · rfl
  · exact h
theorem withI_self {L : Nat → Bool} {i : Nat} : withI L i i = true := by simp [withI]
theorem withI_ne {L : Nat → Bool} {i j : Nat} (h : j ≠ i) : withI L i j = L j := by simp [withI, h]

/-- What is hidden. -/
def HidOK (p : PlanD) (C : Cx) (h0 : HS) (L : Nat → Bool) (a : Act) (h : HS) : Option Nat → Prop
  | none => ∀ v, p.vi = some v → L v.iv = L v.jf
  | some vb => ∃ v, p.vi = some v ∧ L v.iv = true ∧ L v.jf = false ∧ a.tmps[v.tv]? = some (.pointer (some ⟨vb, 0, none⟩)) ∧ (∃ c, h.w.heap[vb]? = some (.cells c v.ty (0, 0)) ∧ c.size = v.n) ∧ h0.w.heap.size ≤ vb ∧ ¬ C.X vb

structure DInv (P : Program) (G : Glob) (nt : Nat) (ops : Array Oper) (C : Cx) (h0 : HS) (E0 : Tr D) (dfs : List Dfr) (p : PlanD) (L : Nat → Bool) (x : SX) (hid : Option Nat) (a : Act) (h : HS) : Prop where
  m : p.Mt L x
  down : ∀ i j, i < ops.size → L i = true → p.bef i j → L j = true
  own : h.own = (p.S x).1
  next : h.next = (p.S x).2
  ok : OK (C.hid hid) h
  gok : GOK G (C.hid hid) h
  ext : Ext h0 h
  size : a.tmps.size = nt
  e1 : ∀ j t, j < ops.size → L j = true → edst (p.is j) (p.cl j) = some t → ∃ u, a.tmps[t]? = some u ∧ R (C.hid hid) h (p.d j) u
  e2 : ∀ t, (∀ j o, ops[j]? = some o → L j = true → o.dst ≠ some t) → ∀ x, E0.get t = some x → ∃ u, a.tmps[t]? = some u ∧ R (C.hid hid) h x u
  dfs : DR (C.hid hid) h dfs a.defers
  hidden : HidOK p C h0 L a h hid

/-- The environment in the text's order. -/
theorem Plan.envLaw (pl : Plan P G T self nt ops p fin) : ∀ k, k ≤ ops.size → ∀ t x, (p.E k).get t = some x → (∃ j, j < k ∧ edst (p.is j) (p.cl j) = some t ∧ x = p.d j) ∨ ((∀ j, j < k → edst (p.is j) (p.cl j) ≠ some t) ∧ (p.E 0).get t = some x) := by
  intro k
  induction k with
  | zero => exact fun _ t x hx => .inr ⟨fun j hj => by omega, hx⟩
  | succ k ih =>
    intro hk t x hx
    rw [pl.env k (by omega)] at hx
    cases hd : edst (p.is k) (p.cl k) with
    | none =>
      rw [hd] at hx
      rcases ih (by omega) t x hx with ⟨j, h1, h2, h3⟩ | ⟨h1, h2⟩
      · exact .inl ⟨j, by omega, h2, h3⟩
      · refine .inr ⟨fun j hj => ?_, h2⟩
        by_cases hjk : j = k
        · subst hjk; rw [hd]; simp
        · exact h1 j (by omega)
    | some t' =>
      rw [hd] at hx
      simp only [setDst] at hx
      by_cases ht : t = t'
      · subst ht
        rw [Tr.get_put_eq] at hx
        cases hx
        exact .inl ⟨k, by omega, hd, rfl⟩
      · rw [Tr.get_put_ne _ _ ht] at hx
        rcases ih (by omega) t x hx with ⟨j, h1, h2, h3⟩ | ⟨h1, h2⟩
        · exact .inl ⟨j, by omega, h2, h3⟩
        · refine .inr ⟨fun j hj => ?_, h2⟩
          by_cases hjk : j = k
          · subst hjk; rw [hd]; simp; exact fun hh => ht hh.symm
          · exact h1 j (by omega)

theorem edst_of (pl : Plan P G T self nt ops p fin) {j : Nat} {o : Oper} (ho : ops[j]? = some o) {t : Nat} (hd : o.dst = some t) : edst (p.is j) (p.cl j) = some t ∨ ∃ v, p.vi = some v ∧ t = v.tv ∧ j = v.iv := by
  obtain ⟨_, e1, _⟩ := cins_inv (pl.cins j o ho)
  have hj : j < ops.size := (Array.getElem?_eq_some_iff.1 ho).1
  cases hc : p.cl j with
  | look lo hi => left; simp [edst, e1, hd]
  | step => left; simp [edst, e1, hd]
  | swap => left; simp [edst, e1, hd]
  | var =>
    right
    obtain ⟨v, hv, rfl⟩ := pl.var j hj hc
    obtain ⟨_, _, _, _, _, ⟨o', _, _, h1, _, _, h4, _⟩, _⟩ := pl.vi v hv
    rw [ho] at h1
    obtain rfl : o = o' := by simpa using h1
    rw [hd] at h4
    exact ⟨v, hv, by simpa using h4, rfl⟩
  | fill t' ty n =>
    obtain ⟨v, hv, rfl⟩ := pl.fill j t' ty n hj hc
    obtain ⟨_, _, _, _, _, _, ⟨o', _, _, _, _, h1, _, _, h4, _⟩, _⟩ := pl.vi v hv
    rw [ho] at h1
    obtain rfl : o = o' := by simpa using h1
    rw [hd] at h4; cases h4

/-- What a ready operation looks at is there. -/
theorem DInv.holds (pl : Plan P G T self nt ops p fin) {L : Nat → Bool} {x : SX} {hid : Option Nat} {a : Act} {h : HS} (inv : DInv P G nt ops C h0 E0 dfs p L x hid a h) (hE0 : p.E 0 = E0) {i : Nat} {o : Oper} (ho : ops[i]? = some o) (rd : Rdy ops p L i) {t : Nat} (hu : t ∈ usesOf ops o)
    (hnf : ∀ v, p.vi = some v → i = v.jf → t ≠ v.tv) (hnv : ∀ v, p.vi = some v → i ≠ v.iv) : Holds1 (C.hid hid) h (p.E i) a.tmps t := by
  intro d hd
  have hi : i < ops.size := (Array.getElem?_eq_some_iff.1 ho).1
  rcases pl.envLaw i (by omega) t d hd with ⟨j, hj, h2, rfl⟩ | ⟨h1, h2⟩
  · refine inv.e1 j t (by omega) ?_ h2
    rcases pl.use i j o t ho (by omega) (by omega) h2 hu with hb | hb
    · exact rd.bef j hb
    · have := pl.back j i (by omega) hb; omega
  · refine inv.e2 t ?_ d (by rw [← hE0]; exact h2)
    intro j oj hoj hL hdst
    have hj : j < ops.size := (Array.getElem?_eq_some_iff.1 hoj).1
    have hji : j ≠ i := fun e => by subst e; rw [rd.un] at hL; cases hL
    rcases edst_of pl hoj hdst with he | ⟨v, hv, rfl, rfl⟩
    · have hge : i < j := by
        rcases Nat.lt_or_ge j i with hlt | hge
        · exact absurd he (h1 j hlt)
        · omega
      rcases pl.use i j o t ho hj (by omega) he hu with hb | hb
      · have := pl.back i j hi hb; omega
      · exact rd.aft j hj hL hb
    · obtain ⟨_, v2, _, v4, _, _, _, v8⟩ := pl.vi v hv
      by_cases hif : i = v.jf
      · exact hnf v hv hif rfl
      · have hb := (v8 i o ho (hnv v hv) hif).2 hu
        have hlt := pl.back i v.jf hi hb
        exact h1 v.jf hlt (by rw [v4]; rfl)

/-- Behind an operation that looks, or steps. -/
theorem DInv.after (pl : Plan P G T self nt ops p fin) {L : Nat → Bool} {x y : SX} {hid : Option Nat} {a : Act} {h h' : HS} (inv : DInv P G nt ops C h0 E0 dfs p L x hid a h) {i : Nat} {o : Oper} (ho : ops[i]? = some o) (rd : Rdy ops p L i)
    (hcl : edst (p.is i) (p.cl i) = (p.is i).dst) (hnv : ∀ v, p.vi = some v → i ≠ v.iv ∧ i ≠ v.jf) (hm : p.Mt (withI L i) y) (h1 : h'.own = (p.S y).1) (h2 : h'.next = (p.S y).2) (e : Ext h h') (ok : OK (C.hid hid) h') {v : Value} (hr : R (C.hid hid) h' (p.d i) v) :
    DInv P G nt ops C h0 E0 dfs p (withI L i) y hid (a.put o.dst v) h' := by
  have hi : i < ops.size := (Array.getElem?_eq_some_iff.1 ho).1
  obtain ⟨hlt, ed, _⟩ := cins_inv (pl.cins i o ho)
  have hput : ∀ t, o.dst ≠ some t → ∀ q, (a.put q v).tmps[t]? = a.tmps[t]? ∨ q = some t := by
    intro t _ q
    cases q with
    | none => exact .inl rfl
    | some t0 =>
      by_cases ht : t0 = t
      · exact .inr (by rw [ht])
      · exact .inl (by simp only [Act.put]; rw [Array.getElem?_setIfInBounds_ne ht])
  have keep : ∀ t, o.dst ≠ some t → (a.put o.dst v).tmps[t]? = a.tmps[t]? := fun t ht => (hput t ht o.dst).resolve_right ht
  refine ⟨hm, ?_, h1, h2, ok, inv.gok.ext e, inv.ext.trans e, by rw [put_size]; exact inv.size, ?_, ?_, by rw [put_defers]; exact inv.dfs.ext e, ?_⟩
  · intro j k hj hL hb
    simp only [withI] at hL ⊢
    split
    · rfl
    · split at hL
      · rename_i hh; subst hh; exact rd.bef k hb
      · exact inv.down j k hj hL hb
  · intro j t hj hL he
    by_cases hji : j = i
    · subst hji
      rw [hcl, ed] at he
      refine ⟨v, ?_, hr⟩
      rw [he]
      have := hlt t he
      simp [Act.put, inv.size, this]
    · have hL' : L j = true := by simpa [withI, hji] using hL
      obtain ⟨u, h3, h4⟩ := inv.e1 j t hj hL' he
      refine ⟨u, ?_, h4.ext e⟩
      rw [keep t (fun hh => pl.dst i j t hi hj (Ne.symm hji) he (by rw [hcl, ed]; exact hh))]
      exact h3
  · intro t ht d hd
    have hti : o.dst ≠ some t := ht i o ho (by simp [withI])
    obtain ⟨u, h3, h4⟩ := inv.e2 t (fun j oj hoj hL => ht j oj hoj (withI_mono hL)) d hd
    exact ⟨u, by rw [keep t hti]; exact h3, h4.ext e⟩
  · cases hid with
    | none =>
      intro v' hv'
      have := hnv v' hv'
      simp only [withI]
      rw [if_neg (Ne.symm this.1), if_neg (Ne.symm this.2)]
      exact inv.hidden v' hv'
    | some vb =>
      obtain ⟨v', k1, k2, k3, k4, ⟨c, k5, k6⟩, k7, k8⟩ := inv.hidden
      have hn := hnv v' k1
      have hX : (C.hid (some vb)).X vb := .inr rfl
      obtain ⟨_, _, _, _, _, _, _, v8⟩ := pl.vi v' k1
      refine ⟨v', k1, withI_mono k2, by simp only [withI]; rw [if_neg (Ne.symm hn.2)]; exact k3, by rw [keep _ (v8 i o ho hn.1 hn.2).1]; exact k4, ⟨c, ?_, k6⟩, k7, k8⟩
      rw [e.old vb (lt_of_heap k5) ?_]
      · exact k5
      · rintro ⟨id, o', g1, g2⟩
        exact (inv.ok.id id o' g1).2.2.1 (by rw [g2]; exact hX)

theorem alloc_run {t : TypeId} {z : Value} (hz : ∀ w, (zeroValue t).run P w = Result.ok z w) (w : World) : (Instr.alloc t true (.tuple #[])).run P w = .ok (.pointer (some ⟨w.heap.size, 0, none⟩)) { w with heap := w.heap.push (.cells z.cells t) } := by
  simp [Instr.alloc, hz, newVar, newRow]

theorem store_run {t : TypeId} {n : Nat} (hsz : ∀ w, (Go.sizeOf t).run P w = Result.ok n w) {w : World} {vb ty : Nat} {c : Array Value} (hb : w.heap[vb]? = some (.cells c ty (0, 0))) (hc : c.size = n) {ux : Value} (hu : ux.cells.size = n) (hone : ∀ q ∈ ux.cells.toList, q.oneCell' = true) :
    (Instr.storeAt t (.pointer (some ⟨vb, 0, none⟩)) ux).run P w = .ok () { w with heap := w.heap.setIfInBounds vb (.cells ux.cells ty (0, 0)) } := by
  have hst := run_storeCells_at P vb 0 ty ux.cells.toList 0 c w hb (by simp; omega) hone
  have hnew : c.toList.take (0 + 0) ++ ux.cells.toList ++ c.toList.drop (0 + 0 + ux.cells.toList.length) = ux.cells.toList := by
    rw [List.drop_of_length_le (by simp; omega)]; simp
  rw [hnew, setRow_eq hb] at hst
  simp [Instr.storeAt, Instr.sureAddr, storeVar, hsz, hu]
  simpa using hst

/-- One operation that comes up. -/
theorem draw_op (pl : Plan P G T self nt ops p fin) (hcall : CallOK P G T self) (hround : RoundOK P G self) (hmeth : MethOK P T) (cc : CC P G C) {r : Option Nat} {m : Nat} {Q : Exit → Act → World → Prop} {L : Nat → Bool} {x : SX} {hid : Option Nat} {a : Act} {h : HS}
    (inv : DInv P G nt ops C h0 E0 dfs p L x hid a h) (hE0 : p.E 0 = E0) {i : Nat} {o : Oper} (ho : ops[i]? = some o) (rd : Rdy ops p L i) {K : Act → World → Prop}
    (hk : ∀ y hid' a' h', DInv P G nt ops C h0 E0 dfs p (withI L i) y hid' a' h' → K a' h'.w) : wpOpIn (Fw r) m P ops Q i K a h.w := by
  have hi : i < ops.size := (Array.getElem?_eq_some_iff.1 ho).1
  have hcins := pl.cins i o ho
  obtain ⟨hlt, ed, eop, egd⟩ := cins_inv hcins
  unfold wpOpIn
  simp only [ho]
  have plainCase : (p.cl i ≠ .var) → (∀ t ty n, p.cl i ≠ .fill t ty n) → (∀ v, p.vi = some v → i ≠ v.iv ∧ i ≠ v.jf) ∧ edst (p.is i) (p.cl i) = (p.is i).dst := by
    intro h1 h2
    refine ⟨fun v hv => ?_, ?_⟩
    · obtain ⟨_, _, v3, v4, _⟩ := pl.vi v hv
      exact ⟨fun e => h1 (by rw [e]; exact v3), fun e => h2 _ _ _ (by rw [e]; exact v4)⟩
    · cases hc : p.cl i with
      | var => exact absurd hc h1
      | fill t ty n => exact absurd hc (h2 t ty n)
      | _ => rfl
  have holds : (∀ v, p.vi = some v → i ≠ v.iv ∧ i ≠ v.jf) → ∀ t ∈ usesOf ops o, Holds1 (C.hid hid) h (p.E i) a.tmps t := fun hn t ht =>
    inv.holds pl hE0 ho rd ht (fun v hv e => absurd e (hn v hv).2) (fun v hv => (hn v hv).1)
  have skip : (∀ v, p.vi = some v → i ≠ v.iv ∧ i ≠ v.jf) → edst (p.is i) (p.cl i) = (p.is i).dst → dguard (p.E i) (p.is i).guard = some false → Region.wanted o (yielded ops a.tmps) = false := fun hn _ hg =>
    guard_sound1 hcins (fun t b hh => holds hn t (uses_guard hcins hh)) hg
  have done : (∀ v, p.vi = some v → i ≠ v.iv ∧ i ≠ v.jf) → dguard (p.E i) (p.is i).guard = some true → Region.wanted o (yielded ops a.tmps) = true := fun hn hg =>
    guard_sound1 hcins (fun t b hh => holds hn t (uses_guard hcins hh)) hg
  have opds : (∀ v, p.vi = some v → i ≠ v.iv ∧ i ≠ v.jf) → ∀ y ∈ o.op.operands.toList, OpdOK (C.hid hid) h G (p.E i) a y := fun hn y hy =>
    opdOK_at inv.gok y (fun t ht => holds hn t (uses_opd (by rw [← ht]; exact hy)))
  have undefR : ∀ (C : Cx) (h : HS), R C h (.tup []) undef := fun C h => by simp only [R]; exact ⟨#[], rfl, RL.nil⟩
  cases hc : p.cl i with
  | look lo hi' =>
    obtain ⟨hn, hed⟩ := plainCase (by rw [hc]; simp) (by rw [hc]; simp)
    have hd := pl.look i lo hi' hi hc L x inv.m rd
    have hm := pl.still i hi (by rw [hc]; rfl) L x inv.m
    unfold dlook at hd
    split at hd
    · rename_i hg
      rw [if_pos (done hn hg)]
      cases hcop : cop P G o with
      | none => rw [hcop] at eop; simp only [Option.getD_none] at eop; rw [eop] at hd; simp [dpure] at hd
      | some op =>
        rw [hcop] at eop; simp only [Option.getD_some] at eop
        rw [eop] at hd
        have hnd : ∀ f, op ≠ .defer f := fun f e => by subst e; simp [dpure] at hd
        refine Does.of_YN (r := r) (not_defer hcop hnd) (dpure_sound inv.ok hcop (opds hn) (by rw [inv.own]; exact hd)) m K Q ?_
        intro v h' k1 k2 k3 k4 k5
        exact hk x hid _ h' (inv.after pl ho rd hed hn hm (by rw [k1]; exact inv.own) (by rw [k2]; exact inv.next) k3 k4 k5)
    · rename_i hg
      simp only [Option.some.injEq] at hd
      rw [if_neg (by rw [skip hn hed hg]; simp)]
      exact ⟨fun _ _ => trivial, hk x hid _ h (inv.after pl ho rd hed hn hm inv.own inv.next (Ext.refl h) inv.ok (by rw [← hd]; exact undefR _ _))⟩
    · cases hd
  | var =>
    obtain ⟨v, hv, rfl⟩ := pl.var i hi hc
    obtain ⟨v1, v2, v3, v4, v5, ⟨o', z, cs, w1, w2, w3, w4, w5, w6, w7⟩, v7, v8⟩ := pl.vi v hv
    rw [ho] at w1
    obtain rfl : o = o' := by simpa using w1
    have hvj := pl.back _ _ v2 v5
    cases hid with
    | some vb =>
      obtain ⟨v', k1, k2, _⟩ := inv.hidden
      rw [hv] at k1
      obtain rfl : v = v' := by simpa using k1
      rw [rd.un] at k2; cases k2
    | none =>
      have hLj : L v.jf = false := by rw [← inv.hidden v hv]; exact rd.un
      have hwant : Region.wanted o (yielded ops a.tmps) = true := by simp [Region.wanted, w3]
      rw [if_pos hwant]
      refine ⟨fun _ _ => trivial, ?_⟩
      -- the zero value
      have hcop : cop P G o = some (.alloc v.ty z) := by
        cases hcop : cop P G o with
        | none => rw [hcop] at eop; simp only [Option.getD_none] at eop; rw [w5] at eop; cases eop
        | some op => rw [hcop] at eop; simp only [Option.getD_some] at eop; rw [← eop, w5]
      obtain ⟨zv, hz⟩ : ∃ zv, tzero P v.ty = some (z, zv) := by
        obtain ⟨dst, op, ty, pos, after, guard⟩ := o
        simp only at w2; subst w2
        simp only [cop] at hcop
        split at hcop
        · rename_i z' zv hz
          split at hcop
          · simp only [Option.some.injEq, IOp.alloc.injEq, true_and] at hcop; subst hcop; exact ⟨zv, hz⟩
          · cases hcop
        · cases hcop
      obtain ⟨z1, z2⟩ := tzero_sound hz
      have hrun : (o.semAt (Fw r).round a.eval).run P h.w = .ok (.value (.pointer (some ⟨h.w.heap.size, 0, none⟩))) (h.push (.cells zv.cells v.ty)).w := by
        rw [show (Fw r).round = r from rfl, Oper.semAt_eq r _ o (by rw [w2]; simp)]
        simp [execOp, w2, alloc_run z1, HS.push]
      rw [hrun, Oper.uponIn_value]
      have gr := Grow.hide inv.ok (.cells zv.cells v.ty)
      have htv : v.tv < a.tmps.size := by rw [inv.size]; exact hlt v.tv w4
      have keep : ∀ t, v.tv ≠ t → (a.put o.dst (.pointer (some ⟨h.w.heap.size, 0, none⟩))).tmps[t]? = a.tmps[t]? := fun t ht => by
        rw [w4]; simp only [Act.put]; rw [Array.getElem?_setIfInBounds_ne ht]
      refine hk x (some h.w.heap.size) _ (h.push (.cells zv.cells v.ty)) ⟨pl.still v.iv hi (by rw [hc]; rfl) L x inv.m, ?_, inv.own, inv.next, OK.hide inv.ok _, inv.gok.mono gr, inv.ext.trans (Ext.push inv.ok _), by rw [put_size]; exact inv.size, ?_, ?_, by rw [put_defers]; exact inv.dfs.mono gr, ?_⟩
      · intro j k hj hL hb
        by_cases hji : j = v.iv
        · subst hji; exact withI_mono (rd.bef k hb)
        · rw [withI_ne hji] at hL; exact withI_mono (inv.down j k hj hL hb)
      · intro j t hj hL he
        have hji : j ≠ v.iv := fun e => by subst e; rw [hc] at he; simp [edst] at he
        rw [withI_ne hji] at hL
        have hjf : j ≠ v.jf := fun e => by subst e; rw [hLj] at hL; cases hL
        obtain ⟨u, h3, h4⟩ := inv.e1 j t hj hL he
        refine ⟨u, ?_, h4.mono gr⟩
        rw [keep t (fun e => by subst e; exact pl.dst j v.jf v.tv hj v2 hjf (by rw [v4]; rfl) he)]
        exact h3
      · intro t ht d hd
        have hti : o.dst ≠ some t := ht v.iv o ho withI_self
        obtain ⟨u, h3, h4⟩ := inv.e2 t (fun j oj hoj hL => ht j oj hoj (withI_mono hL)) d hd
        exact ⟨u, by rw [keep t (fun e => hti (by rw [w4, e]))]; exact h3, h4.mono gr⟩
      · refine ⟨v, hv, withI_self, by rw [withI_ne (by omega)]; exact hLj, ?_, ⟨zv.cells, push_new, ?_⟩, inv.ext.size, fun hx => ?_⟩
        · rw [w4]; simp [Act.put, htv]
        · rw [cells_size (z2 C h) w6, w7]
        · exact Nat.lt_irrefl _ (inv.ok.X _ hx)
  | fill t0 ty0 n0 =>
    obtain ⟨v, hv, rfl⟩ := pl.fill i t0 ty0 n0 hi hc
    obtain ⟨v1, v2, v3, v4, v5, v6, ⟨o', t, xo, a', x', w1, w2, w3, w4, w5, w6⟩, v8⟩ := pl.vi v hv
    rw [ho] at w1
    obtain rfl : o = o' := by simpa using w1
    have hvj := pl.back _ _ v2 v5
    have hLi := rd.bef _ v5
    cases hid with
    | none =>
      have := inv.hidden v hv
      rw [hLi, rd.un] at this; cases this
    | some vb =>
      obtain ⟨v', k1, _, _, k4, ⟨c, k5, k6⟩, k7, k8⟩ := inv.hidden
      rw [hv] at k1
      obtain rfl : v = v' := by simpa using k1
      obtain ⟨y, a2, x2, dd, cs, m1, m2, m3, m4, m5, m6, m7⟩ := pl.fills v hv L x inv.m rd
      have hwant : Region.wanted o (yielded ops a.tmps) = true := by simp [Region.wanted, w3]
      rw [if_pos hwant]
      refine ⟨fun _ _ => trivial, ?_⟩
      have hcop : cop P G o = some (.store v.n a2 x2) := by
        cases hcop : cop P G o with
        | none => rw [hcop] at eop; simp only [Option.getD_none] at eop; rw [m2] at eop; cases eop
        | some op => rw [hcop] at eop; simp only [Option.getD_some] at eop; rw [← eop, m2]
      obtain ⟨hsz, hx2⟩ : tsize P t = some v.n ∧ copd G xo = some x2 := by
        obtain ⟨dst, op, ty, pos, after, guard⟩ := o
        simp only at w2; subst w2
        obtain ⟨n, hn, hcop⟩ := some1 hcop
        obtain ⟨a3, ha, hcop⟩ := some1 hcop
        obtain ⟨x3, hx, hcop⟩ := some1 hcop
        simp only [Option.some.injEq, IOp.store.injEq] at hcop
        obtain ⟨rfl, rfl, rfl⟩ := hcop
        exact ⟨hn, hx⟩
      have hrx : R (C.hid (some vb)) h dd (a.eval xo) := by
        refine opdOK_at inv.gok xo (fun t' ht' => ?_) x2 hx2 dd m3
        refine inv.holds pl hE0 ho rd (uses_opd (by rw [← ht', w2]; simp [Op.operands])) (fun v' hv' _ => ?_) (fun v' hv' => ?_)
        · rw [hv] at hv'
          obtain rfl : v = v' := by simpa using hv'
          intro e; exact w5 (by rw [ht', e])
        · rw [hv] at hv'
          obtain rfl : v = v' := by simpa using hv'
          omega
      have hcs := cells_sound hrx m4
      have hus : (a.eval xo).cells.size = v.n := by rw [cells_size hrx m4, m5]
      have hev : a.eval (.tmp v.tv) = .pointer (some ⟨vb, 0, none⟩) := by simp [Act.eval, Array.getD_eq_getD_getElem?, k4]
      have hrun : (o.semAt (Fw r).round a.eval).run P h.w = .ok .skip (h.adopt vb (.cells (a.eval xo).cells v.ty (0, 0)) (.arr v.ty v.n [dd])).w := by
        rw [show (Fw r).round = r from rfl, Oper.semAt_eq r _ o (by rw [w2]; simp)]
        simp [execOp, w2, hev, store_run (tsize_sound hsz) k5 k6 hus hcs.one, HS.adopt]
      rw [hrun, Oper.uponIn_skip]
      have hsz2 : (a.eval xo).cells.size = c.size := by rw [hus, k6]
      have gr : Grow (C.hide vb) h C (h.adopt vb (.cells (a.eval xo).cells v.ty (0, 0)) (.arr v.ty v.n [dd])) := Grow.adopt inv.ok k5 hsz2 _
      have hre : RE C (h.adopt vb (.cells (a.eval xo).cells v.ty (0, 0)) (.arr v.ty v.n [dd])) v.n [dd] (a.eval xo).cells.toList := by
        have := RE.cons (C := C) (h := h.adopt vb (.cells (a.eval xo).cells v.ty (0, 0)) (.arr v.ty v.n [dd])) hus hcs.one (hrx.mono gr) RE.nil
        simpa using this
      have hput : a.put o.dst undef = a := by rw [w4]; rfl
      rw [hput]
      refine hk y none a (h.adopt vb (.cells (a.eval xo).cells v.ty (0, 0)) (.arr v.ty v.n [dd])) ⟨m1, ?_, by rw [m6]; simp only [HS.adopt, inv.own, inv.next], by rw [m6]; simp only [HS.adopt, inv.next], ?_, inv.gok.mono gr, Ext.adopt inv.ext k7 (fun j oj hj => (inv.ok.id j oj hj).1), inv.size, ?_, ?_, inv.dfs.mono gr, ?_⟩
      · intro j k hj hL hb
        by_cases hji : j = v.jf
        · subst hji; exact withI_mono (rd.bef k hb)
        · rw [withI_ne hji] at hL; exact withI_mono (inv.down j k hj hL hb)
      · exact OK.adopt inv.ok k8 k5 hsz2 (OR_arr_new adopt_M_new (by rw [adopt_self (lt_of_heap k5)]) hre)
      · intro j t' hj hL he
        by_cases hji : j = v.jf
        · subst hji
          rw [v4] at he
          simp only [edst, Option.some.injEq] at he; subst he
          refine ⟨_, k4, ?_⟩
          rw [m7, ← inv.next]
          simp only [R, Cx.hid]
          refine ⟨by simp [HS.adopt], rfl, fun ty' size' xs' _ => ?_⟩
          rw [adopt_M_new]; simp
        · rw [withI_ne hji] at hL
          obtain ⟨u, h3, h4⟩ := inv.e1 j t' hj hL he
          exact ⟨u, h3, h4.mono gr⟩
      · intro t' ht d hd
        obtain ⟨u, h3, h4⟩ := inv.e2 t' (fun j oj hoj hL => ht j oj hoj (withI_mono hL)) d hd
        exact ⟨u, h3, h4.mono gr⟩
      · intro v' hv'
        rw [hv] at hv'
        obtain rfl : v = v' := by simpa using hv'
        rw [withI_self, withI_ne (by omega)]; exact hLi
  | _ =>
    obtain ⟨hn, hed⟩ := plainCase (by rw [hc]; simp) (by rw [hc]; simp)
    obtain ⟨y, own', hm, hst, heq⟩ := pl.step i hi (by rw [hc]; simp) L x inv.m rd
    unfold stepAt at hst
    split at hst
    · rename_i hg
      rw [if_pos (done hn hg)]
      split at hst
      · rename_i d own1 next1 hds
        simp only [Option.some.injEq, Prod.mk.injEq] at hst
        obtain ⟨rfl, rfl, rfl⟩ := hst
        cases hcop : cop P G o with
        | none => rw [hcop] at eop; simp only [Option.getD_none] at eop; rw [eop] at hds; simp [dstep, dplain, dpure, dimp, ok3] at hds
        | some op =>
          rw [hcop] at eop; simp only [Option.getD_some] at eop
          rw [eop] at hds
          have hnd : ∀ f, op ≠ .defer f := fun f e => by subst e; simp [dstep, dplain, dpure, dimp, ok3] at hds
          rw [← inv.own, ← inv.next] at hds
          refine dstep_sound (E := p.E i) hcall hround hmeth (cc.hid hid) inv.gok inv.ok hcop hnd (opds hn) hds m K Q ?_
          intro v h' k1 k2 k3 k4 k5
          have he : ∀ id, (p.S y).1.get id = h'.own.get id := fun id => by rw [heq, k1]
          exact hk y hid _ (h'.reown (p.S y).1) (inv.after pl ho rd hed hn hm rfl (by rw [← k2]; rfl) (k3.reown he) (k4.reown he) (k5.mono (Grow.reown he)))
      · cases hst
    · rename_i hg
      simp only [Option.some.injEq, Prod.mk.injEq] at hst
      obtain ⟨hd, rfl, hnx⟩ := hst
      rw [if_neg (by rw [skip hn hed hg]; simp)]
      have he : ∀ id, (p.S y).1.get id = h.own.get id := fun id => by rw [heq, inv.own]
      exact ⟨fun _ _ => trivial, hk y hid _ (h.reown (p.S y).1) (inv.after pl ho rd hed hn hm rfl (by rw [← hnx]; exact inv.next) ((Ext.refl h).reown he) (inv.ok.reown he) (by rw [← hd]; exact undefR _ _))⟩
    · cases hst
end
end Gv
