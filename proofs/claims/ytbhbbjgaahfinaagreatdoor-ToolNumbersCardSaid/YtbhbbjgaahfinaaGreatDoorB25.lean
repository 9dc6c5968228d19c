/- Part of the proof of ToolNumbers by an evaluator that is proved sound: B25. No condition of its own. -/
import Derived.Test.YtbhbbjgaahfinaaGreatDoorB24
set_option linter.unusedVariables false
set_option linter.unusedSimpArgs false
/-! The evaluator is sound. -/
namespace Gv
open Go
set_option linter.unusedVariables false

section
variable {P : Program} {G : Glob} {T : Tab} {self : IC → St → Option (DX × St)} {nt : Nat} {ops : Array Oper} {bs : List Nat} {rs : List Rec} {f : St3} {alt : Option (Nat × Tr Obj)}

theorem Found.viOK (fd : Found P G T self nt ops bs rs f alt) {v : VI} (hv : mkVi (mkItems ops.toList (rs.map fun r => (r.ins, r.cls)) 0 0) = some v) :
    ∃ ov rv oj rj ty' z cs t3 x a' x', ops[v.iv]? = some ov ∧ rs[v.iv]? = some rv ∧ ops[v.jf]? = some oj ∧ rs[v.jf]? = some rj ∧ rv.cls = .var ∧ ov.op = .alloc v.ty ∧ ov.guard = none ∧ ov.dst = some v.tv ∧ rv.ins.op = .alloc ty' z ∧ z.cells? = some cs ∧ cs.length = v.n ∧
      rj.cls = .fill v.tv v.ty v.n ∧ oj.op = .store t3 (.tmp v.tv) x ∧ oj.guard = none ∧ oj.dst = none ∧ x ≠ .tmp v.tv ∧ rj.ins.op = .store v.n a' x' ∧ hasB bs v.jf v.iv = true ∧
      (∀ i o, ops[i]? = some o → i ≠ v.iv → i ≠ v.jf → o.dst ≠ some v.tv ∧ (v.tv ∈ usesOf ops o → hasB bs i v.jf = true)) := by
  obtain ⟨x, y, n, t, ty, h1, h2, h3, rfl⟩ := mkVi_some hv
  have hvo := fd.fc.var
  unfold varOK at hvo
  rw [h1, h2] at hvo
  simp only at hvo
  split at hvo
  · rename_i t' ht
    obtain ⟨ty1, ty2, z, cs, n1, t3, xo, a', x', e1, e2, e3, e4, e5, e6, e7, e8, e9, e10, e11, e12, e13⟩ := fillOK_inv ht
    rw [h3] at e7
    simp only [Cls.fill.injEq] at e7
    obtain ⟨rfl, rfl, rfl⟩ := e7
    have hx : x ∈ (mkItems ops.toList (rs.map fun r => (r.ins, r.cls)) 0 0).filter (fun x => isVar x.c) := by rw [h1]; exact List.mem_singleton.2 rfl
    have hy : y ∈ (mkItems ops.toList (rs.map fun r => (r.ins, r.cls)) 0 0).filter (fun x => isFill x.c) := by rw [h2]; exact List.mem_singleton.2 rfl
    obtain ⟨hx, hxc⟩ := List.mem_filter.1 hx
    obtain ⟨hy, hyc⟩ := List.mem_filter.1 hy
    obtain ⟨rv, g1, g2, g3, g4, g5⟩ := itm hx
    obtain ⟨rj, k1, k2, k3, k4, k5⟩ := itm hy
    refine ⟨x.o, rv, y.o, rj, ty2, z, cs, t3, xo, a', x', by simpa using g2, g1, by simpa using k2, k1, ?_, e1, e2, e3, by rw [← g3]; exact e4, e5, e6, by rw [← k4]; exact h3, e8, e9, e10, e11, by rw [← k3]; exact e12, e13, ?_⟩
    · rw [← g4]
      cases hc : x.c <;> rw [hc] at hxc <;> simp [isVar] at hxc
    · intro i o ho h4 h5
      obtain ⟨r, hr⟩ := fd.get (Array.getElem?_eq_some_iff.1 ho).1
      have hoth := List.all_eq_true.1 hvo _ (item_mem fd ho hr)
      simp only [otherOK, Bool.or_eq_true, Bool.and_eq_true] at hoth
      rcases hoth with (q | q) | ⟨q1, q2⟩
      · exact absurd (Nat.eq_of_beq_eq_true q) h5
      · exact absurd (Nat.eq_of_beq_eq_true q) h4
      · refine ⟨fun he => ?_, fun hu => ?_⟩
        · rw [he] at q1; simp at q1
        · rcases q2 with q2 | q2
          · have : (usesOf ops o).any (Nat.beq t) = true := List.any_eq_true.2 ⟨t, hu, by simp⟩
            rw [this] at q2; cases q2
          · exact q2
  · cases hvo

theorem plan_of (fd : Found P G T self nt ops bs rs f alt) : Plan P G T self nt ops (mkPlan ops bs rs f alt) f := by
  have gis : ∀ {i : Nat} {r : Rec}, rs[i]? = some r → (mkPlan ops bs rs f alt).is i = r.ins := fun h => by simp [mkPlan, List.getD_eq_getElem?_getD, h]
  have gcl : ∀ {i : Nat} {r : Rec}, rs[i]? = some r → (mkPlan ops bs rs f alt).cl i = r.cls := fun h => by simp [mkPlan, List.getD_eq_getElem?_getD, h]
  have gd : ∀ {i : Nat} {r : Rec}, rs[i]? = some r → (mkPlan ops bs rs f alt).d i = r.d := fun h => by simp [mkPlan, List.getD_eq_getElem?_getD, h]
  have gE : ∀ {i : Nat} {r : Rec}, rs[i]? = some r → (mkPlan ops bs rs f alt).E i = r.E := fun h => by simp [mkPlan, stAt, h]
  have oper : ∀ {i : Nat}, i < ops.size → ∃ o, ops[i]? = some o := fun {i} h => ⟨ops[i], by simp [h]⟩
  have bit : ∀ {i j : Nat}, hasB bs i j = true → i < ops.size → (mkPlan ops bs rs f alt).bef i j := fun h hi => ⟨hi, h⟩
  refine ⟨?_, ?_, ?_, ?_, ?_, ?_, ?_, ?_, ?_, ?_, ?_, ?_, ?_, ?_, ?_, ?_, ?_⟩
  · intro i o ho
    obtain ⟨r, hr⟩ := fd.get (Array.getElem?_eq_some_iff.1 ho).1
    rw [gis hr]; exact fd.cins i o r ho hr
  · rintro i o ho j ⟨hi, hb⟩
    obtain ⟨e, he, hbi, hh⟩ := (fd.fc.bit i o ho j).1 hb
    refine ⟨e, he, hbi, ?_⟩
    rcases hh with hh | hh
    · exact .inl hh
    · exact .inr ⟨by have := fd.fc.on i o ho e he hbi; omega, hh⟩
  · intro i o ho e he hb
    exact ⟨(Array.getElem?_eq_some_iff.1 ho).1, (fd.fc.bit i o ho e.on).2 ⟨e, he, hb, .inl rfl⟩⟩
  · rintro i j hi ⟨_, hb⟩
    exact fd.back i j hi hb
  · intro i j t hi hj hij he
    obtain ⟨ri, hri⟩ := fd.get hi
    obtain ⟨rj, hrj⟩ := fd.get hj
    obtain ⟨oi, hoi⟩ := oper hi
    obtain ⟨oj, hoj⟩ := oper hj
    rw [gis hrj, gcl hrj] at he
    rw [gis hri, gcl hri]
    exact ((fd.fc.pair i j oi oj ri rj hoi hoj hri hrj hij).1 t he).1
  · intro i j o t ho hj hij he hu
    have hi := (Array.getElem?_eq_some_iff.1 ho).1
    obtain ⟨ri, hri⟩ := fd.get hi
    obtain ⟨rj, hrj⟩ := fd.get hj
    obtain ⟨oj, hoj⟩ := oper hj
    rw [gis hrj, gcl hrj] at he
    rcases ((fd.fc.pair i j o oj ri rj ho hoj hri hrj hij).1 t he).2 hu with h | h
    · exact .inl ⟨hi, h⟩
    · exact .inr ⟨hj, h⟩
  · intro k hk
    obtain ⟨r, hr⟩ := fd.get hk
    rw [gE hr, gis hr, gcl hr, gd hr]
    exact ddraw1_env (fd.tr k r hr)
  · have : rs[ops.size]? = none := by rw [List.getElem?_eq_none]; rw [fd.fc.len]; exact Nat.le_refl _
    simp [mkPlan, stAt, this]
  · exact ⟨Nat.zero_le _, fun i r _ _ => by simp⟩
  · intro L x hall hm
    obtain ⟨m, b⟩ := x
    have hlen : scOf rs rs.length ≤ m → (mkPlan ops bs rs f alt).S (m, false) = f.2 := by
      intro hle
      have h1 := fd.SF (k := rs.length) (Nat.le_refl _)
      have hf : (stAt rs f rs.length).2 = f.2 := by simp [stAt]
      by_cases he : m = scOf rs rs.length
      · rw [he, h1, hf]
      · simp only [mkPlan]
        have : (statesOf rs f.2.1 f.2.2)[m]? = none := by
          rw [List.getElem?_eq_none_iff]
          have hl : (statesOf rs f.2.1 f.2.2).length = scOf rs rs.length + 1 := by
            have : ∀ (rs : List Rec) (a : Tr Obj) (b : Nat), (statesOf rs a b).length = rs.countP (fun r => r.cls.steps) + 1 := by
              intro rs a b
              induction rs with
              | nil => rfl
              | cons r rs ih =>
                simp only [statesOf, List.countP_cons]
                cases r.cls.steps <;> simp [ih]
            rw [this]
            simp [scOf]
          omega
        rw [List.getD_eq_getElem?_getD, this]; rfl
    cases b with
    | false =>
      apply hlen
      rcases Nat.lt_or_ge m (scOf rs rs.length) with hlt | hge
      · obtain ⟨q, r, h1, h2, h3, h4⟩ := sc_exists (rs := rs) rs.length (Nat.le_refl _) m hlt
        have := (hm.2 q r h2 h3).1 (hall q (fd.lt h2))
        omega
      · exact hge
    | true =>
      obtain ⟨⟨own', ha⟩, hm⟩ := hm
      obtain ⟨i1, r1, j1, p1, _, _, _, _, _, _, _, _, _, _, _, _, _, q1, q2, q3, q4, q5, q6, q7, _⟩ := (fd.pair ha).ex
      have := (hm j1 p1 q3 (by rw [q4]; rfl)).1 (hall j1 (fd.lt q3))
      have e : scOf rs j1 = m := q6
      omega
  · intro i lo hi hi' hc L x hm rd
    obtain ⟨r, hr⟩ := fd.get hi'
    rw [gcl hr] at hc
    rw [gE hr, gis hr, gd hr]
    exact fd.look hm hr hc rd
  · intro i hi hc L x hm rd
    obtain ⟨r, hr⟩ := fd.get hi
    rw [gcl hr] at hc
    rw [gE hr, gis hr, gd hr]
    exact fd.step hm hr hc rd
  · intro i hi hc L x hm
    obtain ⟨r, hr⟩ := fd.get hi
    rw [gcl hr] at hc
    obtain ⟨m, b⟩ := x
    have key : ∀ (p : Nat → Prop), (∀ j rj, rs[j]? = some rj → rj.cls.steps = true → (L j = true ↔ p j)) → ∀ j rj, rs[j]? = some rj → rj.cls.steps = true → (withI L i j = true ↔ p j) := by
      intro p hp j rj hj hs
      have hji : j ≠ i := fun e => by
        subst e
        rw [hr] at hj
        obtain rfl : r = rj := by simpa using hj
        rw [hc] at hs; cases hs
      rw [withI_ne hji]; exact hp j rj hj hs
    cases b with
    | false => exact ⟨hm.1, key _ hm.2⟩
    | true => exact ⟨hm.1, key _ hm.2⟩
  · intro i hi hc
    obtain ⟨r, hr⟩ := fd.get hi
    rw [gcl hr] at hc
    obtain ⟨v, h1, h2, _⟩ := fd.var1 hr (.inl (by rw [hc]; rfl))
    exact ⟨v, h1, h2 (by rw [hc]; rfl)⟩
  · intro i t ty n hi hc
    obtain ⟨r, hr⟩ := fd.get hi
    rw [gcl hr] at hc
    obtain ⟨v, h1, _, h2⟩ := fd.var1 hr (.inr (by rw [hc]; rfl))
    exact ⟨v, h1, h2 (by rw [hc]; rfl)⟩
  · intro v hv
    obtain ⟨ov, rv, oj, rj, ty', z, cs, t3, x, a', x', h1, h2, h3, h4, h5, h6, h7, h8, h9, h10, h11, h12, h13, h14, h15, h16, h17, h18, h19⟩ := fd.viOK hv
    have hcop := (cins_inv (fd.cins _ _ _ h1 h2)).2.2.1
    have hty : ty' = v.ty := by
      rw [h9] at hcop
      cases hc : cop P G ov with
      | none => rw [hc] at hcop; simp at hcop
      | some op =>
        rw [hc] at hcop
        simp only [Option.getD_some] at hcop
        rw [← hcop] at hc
        obtain ⟨dst, op, ty, pos, after, guard⟩ := ov
        simp only at h6; subst h6
        simp only [cop] at hc
        split at hc
        · split at hc
          · simp only [Option.some.injEq, IOp.alloc.injEq] at hc; exact hc.1.symm
          · cases hc
        · cases hc
    subst hty
    refine ⟨fd.lt h2, fd.lt h4, by rw [gcl h2]; exact h5, by rw [gcl h4]; exact h12, ⟨fd.lt h4, h18⟩, ⟨ov, z, cs, h1, h6, h7, h8, by rw [gis h2]; exact h9, h10, h11⟩, ⟨oj, t3, x, a', x', h3, h13, h14, h15, h16, by rw [gis h4]; exact h17⟩, ?_⟩
    intro i o ho hi1 hi2
    obtain ⟨q1, q2⟩ := h19 i o ho hi1 hi2
    exact ⟨q1, fun hu => ⟨(Array.getElem?_eq_some_iff.1 ho).1, q2 hu⟩⟩
  · intro v hv L x hm rd
    obtain ⟨ov, rv, oj, rj, ty', z, cs, t3, xo, a', x', h1, h2, h3, h4, h5, h6, h7, h8, h9, h10, h11, h12, h13, h14, h15, h16, h17, h18, h19⟩ := fd.viOK hv
    have hs : rj.cls.steps = true := by rw [h12]; rfl
    have htr := fd.tr _ _ h4
    rw [h12] at htr
    simp only [ddraw1, h17] at htr
    obtain ⟨dd, g1, htr⟩ := some1 htr
    obtain ⟨cs2, g2, htr⟩ := some1 htr
    split at htr
    · rename_i hlen
      simp only [Option.some.injEq, Prod.mk.injEq] at htr
      obtain ⟨hd, htr⟩ := htr
      have hnx := fd.next hm h4 hs rd
      obtain ⟨m, b⟩ := x
      cases b with
      | true =>
        exfalso
        obtain ⟨⟨own', ha⟩, hm⟩ := hm
        rcases hnx with hnx | ⟨hh, _⟩
        · simp only at hnx
          obtain ⟨i1, r1, j1, p1, _, _, _, _, _, _, _, _, _, _, _, _, _, q1, q2, q3, q4, q5, q6, q7, _⟩ := (fd.pair ha).ex
          have e : scOf rs j1 = m := q6
          obtain rfl := sc_inj h4 q3 hs (by rw [q4]; rfl) (by omega)
          rw [h4] at q3
          obtain rfl : rj = p1 := by simpa using q3
          rw [h12] at q4; cases q4
        · cases hh
      | false =>
        rcases hnx with hnx | ⟨_, hsw, _⟩
        · simp only at hnx; subst hnx
          refine ⟨(scOf rs v.jf + 1, false), a', x', dd, cs2, mt_next fd h4 hs hm, by rw [gis h4]; exact h17, by rw [gE h4]; exact g1, g2, hlen, ?_, ?_⟩
          · have h20 := fd.SF (k := v.jf + 1) (List.getElem?_eq_some_iff.1 h4).1
            have h21 := sc_succ h4
            rw [hs] at h21
            simp at h21
            rw [← h21, h20, fd.S1 h4, ← htr]
          · rw [gd h4, fd.S1 h4, ← hd]
        · rw [h12] at hsw; cases hsw
    · cases htr
end

section
variable {P : Program} {G : Glob} {T : Tab} {self : IC → St → Option (DX × St)}

theorem cinss_get {nt : Nat} {y : Nat → Option (Option Nat)} : ∀ {os : List Oper} {is : List Ins}, cinss P G nt y os = some is → ∀ (i : Nat) (o : Oper) (x : Ins), os[i]? = some o → is[i]? = some x → cins P G nt y o = some x
  | [], is, h, i, o, x, ho, hx => by simp at ho
  | o0 :: os, is, h, i, o, x, ho, hx => by
    obtain ⟨i0, is0, h1, h2, h⟩ := some2 h
    simp only [Option.some.injEq] at h; subst h
    cases i with
    | zero => simp only [List.getElem?_cons_zero, Option.some.injEq] at ho hx; subst ho; subst hx; exact h1
    | succ i => exact cinss_get h2 i o x (by simpa using ho) (by simpa using hx)
theorem cinss_len {nt : Nat} {y : Nat → Option (Option Nat)} : ∀ {os : List Oper} {is : List Ins}, cinss P G nt y os = some is → is.length = os.length
  | [], is, h => by simp only [cinss, Option.some.injEq] at h; subst h; rfl
  | o0 :: os, is, h => by
    obtain ⟨i0, is0, h1, h2, h⟩ := some2 h
    simp only [Option.some.injEq] at h; subst h
    simp [cinss_len h2]

theorem draw_ok (hcall : CallOK P G T self) (hround : RoundOK P G self) (hmeth : MethOK P T) (hmix : P.follows .mixedOrders = true) (nt : Nat) (ops : Array Oper) (l : List (Ins × Cls)) (hc : cdraw P G nt ops = some l) (id : Nat) (s : St) (x : DX) (s' : St) (hd : stepC T self (.draw l) s = some (x, s')) :
    CodeDoes P G nt s x s' (fun Q a w r m => (Code.region id ops true).wpIn (Fw r) m P Q a w) := by
  intro r C h0 h a cc hg hrd fr m Q hk
  unfold cdraw at hc
  obtain ⟨is, his, hc⟩ := some1 hc
  obtain ⟨cl, hc⟩ : ∃ cl, checkDraw ops (CheckFast.beforeL ops.toList 0 []) is cl = some l := ⟨_, hc⟩
  unfold checkDraw at hc
  split at hc
  · rename_i hok
    simp only [Option.some.injEq] at hc
    simp only [Bool.and_eq_true] at hok
    obtain ⟨hok, hlen⟩ := hok
    have hlen := Nat.eq_of_beq_eq_true hlen
    rw [hc] at hok
    have hll : l.length = ops.size := by
      have := cinss_len his
      rw [← hc]; simp at this ⊢; omega
    simp only [stepC] at hd
    split at hd
    · rename_i rs E own next hdr
      split at hd
      · rename_i alt halt
        split at hd
        · rename_i hlk
          simp only [Option.some.injEq, Prod.mk.injEq] at hd
          obtain ⟨rfl, rfl⟩ := hd
          obtain ⟨t1, t2, t3⟩ := ddraw_trace hdr
          have fd : Found P G T self nt ops (CheckFast.beforeL ops.toList 0 []) rs (E, own, next) alt := by
            refine ⟨?_, facts_of ⟨by rw [t1]; exact hok, by rw [t1]; exact hll⟩, t3, halt, fun r hr => List.all_eq_true.1 hlk r hr⟩
            intro i o r ho hr
            refine cinss_get his i o r.ins (by simpa using ho) ?_
            have h1 : l[i]? = some (r.ins, r.cls) := by rw [← t1]; simp [hr]
            rw [← hc, List.getElem?_zip_eq_some] at h1
            exact h1.1
          have pl := plan_of fd
          have hE0 : (mkPlan ops (CheckFast.beforeL ops.toList 0 []) rs (E, own, next) alt).E 0 = s.E := by
            show (stAt rs (E, own, next) 0).1 = s.E
            rw [t2]
          have hS0 : (mkPlan ops (CheckFast.beforeL ops.toList 0 []) rs (E, own, next) alt).S (0, false) = (s.own, s.next) := by
            have := fd.SF (k := 0) (Nat.zero_le _)
            rw [t2] at this
            exact this
          refine draw_plan (dfs := s.dfs) (own := s.own) (next := s.next) pl hcall hround hmeth cc hmix hg (by rw [hE0]; exact fr) hS0 (fun _ _ => trivial) ?_
          exact fun a' h' fr' => hk a' h' fr'
        · cases hd
      · cases hd
    · cases hd
  · cases hc

/-! ### All together -/
/-- What is asked of the table, and of the program. -/
structure TabSound (P : Program) (G : Glob) (T : Tab) : Prop where
  tab : TabOK P G T
  prims : PrimOK P T
  meth : MethOK P T
  mix : P.follows .mixedOrders = true

theorem self_ok (ts : TabSound P G T) : ∀ n, SelfOK P G (dcode T n)
  | 0 => ⟨fun ic s x s' h => (by rw [dcode_zero] at h; cases h), fun ib s x s' h => (by rw [dcode_zero] at h; cases h), fun l ir ix s y s' h => (by rw [dcode_zero] at h; cases h), fun ic s x s' h => (by rw [dcode_zero] at h; cases h)⟩
  | n + 1 => by
    have so := self_ok ts n
    have hcall := call_ok so ts.tab ts.prims
    have hround := round_ok so
    have hc : CodeOK P G (stepC T (dcode T n)) := code_ok so hcall hround ts.meth
      (fun nt ops l hl id s x s' hd => draw_ok hcall hround ts.meth ts.mix nt ops l hl id s x s' hd)
      (fun nt f ps A B f' A' B' hf hA hB s x s' hd => range_ok so hcall nt f ps A B f' A' B' hf hA hB s x s' hd)
    exact ⟨hc, loop_ok so, scope_ok so, stepC_plain so.plain⟩

/-- **A CALL THAT THE EVALUATOR ANSWERS IS ANSWERED SO.** -/
theorem eval_sound (ts : TabSound P G T) {n : Nat} {f : Nat} {args : List D} {own own' : Tr Obj} {next next' : Nat} {out : Out} (hd : dcall T (dcode T n) f args own next = some (out, own', next')) {C : Cx} {h : HS} {us : Array Value}
    (cc : CC P G C) (hg : GOK G C h) (ok : OK C h) (e1 : h.own = own) (e2 : h.next = next) (hr : RL C h false args us.toList) : CallDoes P C h f us out own' next' :=
  ((call_ok (self_ok ts n) ts.tab ts.prims) f args own next out own' next' hd C h us cc hg ok e1 e2 hr).1
end
end Gv
