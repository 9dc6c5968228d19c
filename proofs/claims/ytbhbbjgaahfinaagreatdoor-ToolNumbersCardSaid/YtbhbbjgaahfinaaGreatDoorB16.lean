/- Part of the proof of ToolNumbers by an evaluator that is proved sound: B16. No condition of its own. -/
import Derived.Test.YtbhbbjgaahfinaaGreatDoorB15
set_option linter.unusedVariables false
set_option linter.unusedSimpArgs false
/-! A frame on its way out; calls. -/
namespace Gv
open Go
set_option linter.unusedVariables false

/-- Object id is gone; its block is g. -/
def HS.drop (h : HS) (id : Nat) (g : Go.Obj) : HS :=
  { h with own := h.own.put id none, w := { h.w with heap := h.w.heap.setIfInBounds (h.M id).1 g } }

theorem drop_other {h : HS} {id : Nat} {g : Go.Obj} {b : Nat} (hb : b ≠ (h.M id).1) : (h.drop id g).w.heap[b]? = h.w.heap[b]? := by
  simp only [HS.drop]
  rw [Array.getElem?_setIfInBounds_ne (by omega)]

theorem drop_get {h : HS} {id i : Nat} {g : Go.Obj} {o : Obj} (hi : (h.drop id g).own.get i = some o) : i ≠ id ∧ h.own.get i = some o := by
  simp only [HS.drop] at hi
  by_cases hh : i = id
  · subst hh; rw [Tr.get_put_eq] at hi; cases hi
  · rw [Tr.get_put_ne _ _ hh] at hi; exact ⟨hh, hi⟩

theorem Ext.drop {C : Cx} {h : HS} (ok : OK C h) {id : Nat} {o0 : Obj} (h0 : h.own.get id = some o0) (g : Go.Obj) (hc : ∀ c e f, h.w.heap[(h.M id).1]? ≠ some (.cells c e f)) : Ext h (h.drop id g) where
  size := by simp [HS.drop]
  os := rfl
  tape := rfl
  output := rfl
  old := fun b hb hn => drop_other (fun e => hn ⟨id, o0, h0, e.symm⟩)
  next := Nat.le_refl _
  M := fun _ _ => rfl
  live := fun i o' _ ho => ⟨o', (drop_get ho).2, o'.sim_refl⟩
  newb := fun i o' ho => .inl ⟨i, o', (drop_get ho).2, rfl⟩
  cells := fun b c e f hb => by
    by_cases hbe : b = (h.M id).1
    · subst hbe; exact absurd hb (hc c e f)
    · exact ⟨c, f, by rw [drop_other hbe]; exact hb, rfl⟩

theorem OK.drop {C : Cx} {h : HS} (ok : OK C h) {id : Nat} {o0 : Obj} (h0 : h.own.get id = some o0) {g : Go.Obj} (e : Ext h (h.drop id g)) : OK C (h.drop id g) where
  id := fun i o' hg => by
    obtain ⟨hi, hg'⟩ := drop_get hg
    obtain ⟨h1, h2, h3, h4⟩ := ok.id i o' hg'
    refine ⟨h1, by simp [HS.drop]; exact h2, h3, h4.keep e rfl (drop_other ?_)⟩
    exact fun hb => hi (ok.inj i id o' o0 hg' h0 hb)
  inj := fun i j oi oj hi hj hM => ok.inj i j oi oj (drop_get hi).2 (drop_get hj).2 hM
  X := fun b hb => by simp [HS.drop]; exact ok.X b hb
  dvd := fun i ty size xs hg => by
    refine ok.dvd_old e ?_ hg
    exact (ok.id _ _ (drop_get hg).2).1

/-! ### Results -/
section
variable {C : Cx} {h h0 : HS} {P : Program} {G : Glob} {T : Tab} {self : IC → St → Option (DX × St)}

def resOne (tmps : Array Value) : ResultVar → Sem Value
  | .tmp t => pure (tmps.getD t undef)
  | .cell a t => do loadVar t (← asAddr (tmps.getD a undef))

theorem results_eq (fn : Func) (tmps : Array Value) (w : World) {us : List Value} (h : (fn.results.toList.mapM (resOne tmps)).run P w = .ok us w) :
    (results fn tmps).run P w = .ok (if h : us.length = 1 then us[0] else .tuple us.toArray) w := by
  have e : results fn tmps = (do let vs ← fn.results.mapM (resOne tmps); pure (if h : vs.size = 1 then vs[0] else .tuple vs)) := rfl
  rw [e, Array.mapM_eq_mapM_toList]
  simp [h]

theorem dload_ptr {n : Option Nat} {a d : D} {u : Value} (hr : R C h a u) (hd : dload h.own n a = some d) : ∃ x, u = .pointer (some x) := by
  unfold dload at hd
  split at hd
  · split at hd
    · rename_i ho
      simp only [R] at hr
      exact ⟨_, hr.2.2 _ _ _ ho⟩
    · cases hd
  · simp only [R] at hr
    obtain ⟨b, off, cs, hu, _⟩ := hr
    exact ⟨_, hu⟩
  · cases hd

theorem dress_sound (ok : OK C h) {E : Tr D} {tmps : Array Value} (he : envR C h E tmps) : ∀ {rvs : List ResultVar} {rs : List RK} {ds : List D}, cres P rvs = some rs → dress E h.own rs = some ds →
    ∃ us, (rvs.mapM (resOne tmps)).run P h.w = .ok us h.w ∧ RL C h false ds us
  | [], rs, ds, hc, hd => by
    simp only [cres, Option.some.injEq] at hc; subst hc
    simp only [dress, Option.some.injEq] at hd; subst hd
    exact ⟨[], rfl, RL.nil⟩
  | .tmp t :: rvs, rs, ds, hc, hd => by
    simp only [cres, Option.map_eq_some_iff] at hc
    obtain ⟨rs', hc, rfl⟩ := hc
    obtain ⟨d, ds', h1, h2, hd⟩ := some2 hd
    simp only [Option.some.injEq] at hd; subst hd
    obtain ⟨us, h3, h4⟩ := dress_sound ok he hc h2
    simp only [dres1] at h1
    obtain ⟨u, h5, h6⟩ := he t d h1
    refine ⟨u :: us, ?_, RL.cons (by simp) h6 h4⟩
    simp [List.mapM_cons, resOne, Array.getD_eq_getD_getElem?, h5, h3]
  | .cell t ty :: rvs, rs, ds, hc, hd => by
    simp only [cres] at hc
    obtain ⟨n, rs', hn, hcs, hr⟩ := some2 hc
    simp only [Option.some.injEq] at hr; subst hr
    obtain ⟨d, ds', h1, h2, hd⟩ := some2 hd
    simp only [Option.some.injEq] at hd; subst hd
    obtain ⟨us, h3, h4⟩ := dress_sound ok he hcs h2
    simp only [dres1] at h1
    obtain ⟨a, h5, h6⟩ := some1 h1
    obtain ⟨u, h7, h8⟩ := he t a h5
    obtain ⟨t1, t2⟩ := tagg_sound hn
    obtain ⟨v, h9, h10⟩ := load_sound ok t1 t2 h8 h6
    refine ⟨v :: us, ?_, RL.cons (by simp) h10 h4⟩
    obtain ⟨x, rfl⟩ := dload_ptr h8 h6
    have h9' : (loadVar ty x).run P h.w = .ok v h.w := by simpa [Instr.loadAt, Instr.sureAddr] using h9
    simp only [List.mapM_cons, resOne, Array.getD_eq_getD_getElem?, h7, Option.getD_some]
    simp [asAddr, h9', h3]


/-! ### The frame of a call -/
theorem get_putArgs : ∀ (ds : List D) (k : Nat) (E : Tr D) (t : Nat), (putArgs ds k E).get t = if k ≤ t ∧ t < k + ds.length then ds[t - k]? else E.get t
  | [], k, E, t => by
    simp only [putArgs, List.length_nil]
    rw [if_neg (by omega)]
  | d :: ds, k, E, t => by
    simp only [putArgs]
    rw [get_putArgs ds (k + 1) _ t, List.length_cons]
    by_cases h1 : k + 1 ≤ t ∧ t < k + 1 + ds.length
    · rw [if_pos h1, if_pos (by omega)]
      have : t - k = (t - (k + 1)) + 1 := by omega
      rw [this, List.getElem?_cons_succ]
    · rw [if_neg h1]
      by_cases h2 : t = k
      · subst h2
        rw [Tr.get_put_eq, if_pos (by omega)]; simp
      · rw [Tr.get_put_ne _ _ h2, if_neg (by omega)]

theorem envR_args {args : List D} {us : Array Value} (hr : RL C h false args us.toList) (n : Nat) : envR C h (putArgs args 0 .nil) (us ++ Array.replicate n undef) := by
  intro t d ht
  rw [get_putArgs] at ht
  split at ht
  · obtain ⟨u, h1, h2, h3⟩ := hr.get _ ht
    have hlt : t < us.size := by
      have := (List.getElem?_eq_some_iff.1 h1).1
      simpa using this
    refine ⟨u, ?_, h3⟩
    rw [Array.getElem?_append_left hlt]
    simpa using h1
  · simp at ht

theorem cfunc_inv {f : Nat} {fi : FI} (hc : cfunc P G f = some fi) : ∃ fn c, P.funcs[f]? = some fn ∧ (fn.name == "runtime.NumGoroutine") = false ∧ fn.body = some c ∧ ccode P G fn.ntmps c = some fi.body ∧
    cres P fn.results.toList = some fi.res ∧ fi.np ≤ fn.ntmps := by
  unfold cfunc at hc
  obtain ⟨fn, h1, hc⟩ := some1 hc
  split at hc
  · cases hc
  · rename_i hn
    obtain ⟨c, h2, hc⟩ := some1 hc
    obtain ⟨ic, rs, h3, h4, hc⟩ := some2 hc
    split at hc
    · rename_i hle
      simp only [Option.some.injEq] at hc; subst hc
      exact ⟨fn, c, h1, by simpa using hn, h2, h3, h4, hle⟩
    · cases hc

theorem enter_run {f : FuncId} {fn : Func} {c : Code} (hf : P.funcs[f]? = some fn) (hn : (fn.name == "runtime.NumGoroutine") = false) (hb : fn.body = some c) (args : Array Value) (w : World) :
    (callFunc f args).run P w = .ok (.enter f args) w := by
  have hn' : fn.name ≠ "runtime.NumGoroutine" := by simpa using hn
  simp [callFunc, hf, hn', hb]

/-- The mode of a frame on its way out. -/
def MdR (C : Cx) (h : HS) : Md → FrameMode → Prop
  | .ret, u => u = .returning
  | .pan d, u => ∃ v, R C h d v ∧ u = .panicking [{ v, recovered := false }]
  | .recd, u => ∃ v, u = .panicking [{ v, recovered := true }]
theorem MdR.ext {C : Cx} {h h' : HS} (e : Ext h h') {m : Md} {u : FrameMode} (hm : MdR C h m u) : MdR C h' m u := by
  cases m with
  | ret => exact hm
  | pan d => obtain ⟨v, h1, h2⟩ := hm; exact ⟨v, h1.ext e, h2⟩
  | recd => exact hm

/-- The table is the program's. -/
def TabOK (P : Program) (G : Glob) (T : Tab) : Prop := ∀ f fi, T.code f = some fi → cfunc P G f = some fi

/-! ### Deferred calls' code -/
def LeftS (C : Cx) (h' : HS) (x : DX) (cs : List Frame) (Q : Exit → Act → List Frame → World → Prop) (a' : Act) : Prop := Left C h' x (fun e a w => Q e a cs w) a'

theorem dopsS_sound {C : Cx} (hg0 : GOK G C h0) {nt : Nat} {ops : Array Oper} {n : Nat} {Q : Exit → Act → List Frame → World → Prop} {c0 : Frame} {cs : List Frame} :
    ∀ (l : List Oper) (k : Nat) (is : List Ins), l = ops.toList.drop k → cinss P G nt (dstOf ops) l = some is → ∀ (s s' : St) (m m' : Md) (u : FrameMode) (h : HS) (a : Act), FR C h0 nt s a h → MdR C h m u →
      dopsS is m s = some (s', m') → (∀ a' h' u', FR C h0 nt s' a' h' → MdR C h' m' u' → Q .normal a' ({ c0 with mode := u' } :: cs) h'.w) → wpOpsSIn (Fw none) n P ops Q (List.range' k l.length) a ({ c0 with mode := u } :: cs) h.w
  | [], k, is, hl, hc, s, s', m, m', u, h, a, fr, hm, hd, hk => by
    simp only [cinss, Option.some.injEq] at hc; subst hc
    simp only [dopsS, Option.some.injEq, Prod.mk.injEq] at hd
    obtain ⟨rfl, rfl⟩ := hd
    exact hk a h u fr hm
  | o :: os, k, is, hl, hc, s, s', m, m', u, h, a, fr, hm, hd, hk => by
    obtain ⟨i, is', h1, h2, hc⟩ := some2 hc
    simp only [Option.some.injEq] at hc; subst hc
    have hok : ops[k]? = some o := by
      rw [← Array.getElem?_toList]
      have : (ops.toList.drop k)[0]? = some o := by rw [← hl]; rfl
      simpa using this
    have hos : os = ops.toList.drop (k + 1) := by
      have : (ops.toList.drop k).tail = os := by rw [← hl]; rfl
      rw [← this]; simp
    simp only [List.length_cons, List.range'_succ, wpOpsSIn, hok]
    refine ⟨fun _ _ => trivial, ?_⟩
    obtain ⟨hlt, e1, e2, e3⟩ := cins_inv h1
    have hg : GOK G C h := hg0.ext fr.ext
    have ih := fun (s1 : St) (m1 : Md) (u1 : FrameMode) (h' : HS) (a1 : Act) (fr1 : FR C h0 nt s1 a1 h') (hm1 : MdR C h' m1 u1) (hd1 : dopsS is' m1 s1 = some (s', m')) =>
      dopsS_sound (n := n) (Q := Q) (c0 := c0) (cs := cs) hg0 os (k + 1) is' hos h2 s1 s' m1 m' u1 h' a1 fr1 hm1 hd1 hk
    simp only [dopsS] at hd
    split at hd
    · rename_i hgd
      rw [guard_sound h1 fr.env hgd, if_pos rfl]
      cases hcop : cop P G o with
      | none =>
        rw [hcop] at e2
        simp only [Option.getD_none] at e2
        rw [e2] at hd
        simp [dplain, dpure, dimp] at hd
      | some op =>
        rw [hcop] at e2
        simp only [Option.getD_some] at e2
        have hopd : ∀ y ∈ o.op.operands.toList, OpdOK C h G s.E a y := fun y _ => opdOK_of hg fr.env y
        split at hd
        · rename_i hf
          rw [e2] at hf; subst hf
          have hrun : (execOp a.eval o).run P h.w = .ok .recover h.w := by
            rcases cop_calls hcop rfl with ⟨_, _, _, _, _, _, e3⟩ | ⟨_, _, _, _, _, _, _, _, e3⟩ | ⟨_, _, _, _, _, _, _, _, _, e3⟩ | ⟨_, _, _, _, e3⟩ | ⟨_, _, _, _, _, e3⟩ | ⟨tys, g1, _⟩
            · cases e3
            · cases e3
            · cases e3
            · cases e3
            · cases e3
            · simp [execOp, g1, resolve, Deferred.ofValue, invoke, builtin]
          rw [hrun]
          have put : ∀ (d : D) (v : Value), R C h d v → FR C h0 nt ⟨setDst s.E i.dst d, s.own, s.next, s.dfs⟩ (a.put o.dst v) h := fun d v hr => by
            have := fr.put (dst := i.dst) (d := d) (v := v) (fun t ht => hlt t (by rw [← e1]; exact ht)) (Ext.refl h) fr.ok fr.own fr.next hr
            rw [e1] at this; rw [e1]; exact this
          cases m with
          | ret =>
            simp only [MdR] at hm; subst hm
            simp only [recoverD]
            exact ih _ .ret .returning h _ (put (.v .nilIface) .nilIface (by simp [R])) rfl hd
          | recd =>
            obtain ⟨v, rfl⟩ := hm
            simp only [recoverD]
            exact ih _ .recd _ h _ (put (.v .nilIface) .nilIface (by simp [R])) ⟨v, rfl⟩ hd
          | pan d =>
            obtain ⟨v, hr, rfl⟩ := hm
            simp only [recoverD]
            exact ih _ .recd _ h _ (put d v hr) ⟨v, rfl⟩ hd
        · rename_i hnr
          split at hd
          · rename_i d own next hp
            have hy : YN C P h (execOp a.eval o) d own next := by
              unfold dplain at hp
              rw [← fr.own, ← fr.next] at hp
              split at hp
              · rename_i d' hpu
                simp only [Option.some.injEq, Prod.mk.injEq] at hp
                obtain ⟨rfl, rfl, rfl⟩ := hp
                exact dpure_sound fr.ok (by rw [hcop, ← e2]) hopd hpu
              · exact dimp_sound fr.ok (by rw [hcop, ← e2]) hopd hp
            obtain ⟨v, h', g1, g2, g3, g4, g5, g6⟩ := hy
            have fr' := fr.put (dst := i.dst) (d := d) (v := v) (fun t ht => hlt t (by rw [← e1]; exact ht)) g5 g6 g3 g4 g2
            rw [e1] at fr' hd
            rcases g1 with g1 | ⟨g1, rfl⟩
            · rw [g1]; exact ih _ _ _ _ _ fr' (hm.ext g5) hd
            · rw [g1]; exact ih _ _ _ _ _ fr' (hm.ext g5) hd
          · cases hd
    · rename_i hgd
      rw [guard_sound h1 fr.env hgd, if_neg (by simp)]
      have := fr.put (dst := i.dst) (d := .tup []) (v := undef) (fun t ht => hlt t (by rw [← e1]; exact ht)) (Ext.refl h) fr.ok fr.own fr.next (by simp only [R]; exact ⟨#[], rfl, RL.nil⟩)
      rw [e1] at this hd
      exact ih _ _ _ _ _ this hm hd
    · cases hd

theorem ccode_inv {nt : Nat} {c : Code} {ic : IC} (hc : ccode P G nt c = some ic) : match c with
    | .skip => ic = .skip | .region _ _ false => ∃ is, ic = .region is | .region _ _ true => ∃ l, ic = .draw l
    | .seq a b => ∃ A B, ic = .seq A B ∧ ccode P G nt a = some A ∧ ccode P G nt b = some B
    | .cond _ _ _ => ∃ x A B, ic = .cond x A B | .block id _ => ∃ A, ic = .block id A | .loop _ => ∃ A, ic = .loop A | .exit id => ic = .exit id | .label l => ic = .label l | .goto l => ic = .goto l
    | .ret => ic = .ret | .refuse _ => ic = .bad | .scope _ => ∃ l r A, ic = .scope l r A | .rangeFunc _ _ _ _ => ∃ f ps A B, ic = .rangeF nt f ps A B := by
  cases c with
  | region id ops d => cases d <;> simp only [ccode, Option.map_eq_some_iff] at hc <;> obtain ⟨x, _, rfl⟩ := hc <;> exact ⟨x, rfl⟩
  | seq a b =>
    simp only [ccode] at hc
    obtain ⟨A, B, h1, h2, hc⟩ := some2 hc
    simp only [Option.some.injEq] at hc; subst hc
    exact ⟨A, B, rfl, h1, h2⟩
  | cond x a b =>
    simp only [ccode] at hc
    obtain ⟨x', _, hc⟩ := some1 hc
    obtain ⟨A, B, h1, h2, hc⟩ := some2 hc
    simp only [Option.some.injEq] at hc; subst hc
    exact ⟨x', A, B, rfl⟩
  | scope b =>
    simp only [ccode] at hc
    obtain ⟨x', _, hc⟩ := some1 hc
    split at hc
    · simp only [Option.map_eq_some_iff] at hc
      obtain ⟨r, _, rfl⟩ := hc
      exact ⟨_, r, x', rfl⟩
    · cases hc
  | rangeFunc f ps a b =>
    simp only [ccode] at hc
    obtain ⟨x', _, hc⟩ := some1 hc
    obtain ⟨A, B, h1, h2, hc⟩ := some2 hc
    simp only [Option.some.injEq] at hc; subst hc
    exact ⟨x', _, A, B, rfl⟩
  | block id b => simp only [ccode, Option.map_eq_some_iff] at hc; obtain ⟨x, _, rfl⟩ := hc; exact ⟨x, rfl⟩
  | loop b => simp only [ccode, Option.map_eq_some_iff] at hc; obtain ⟨x, _, rfl⟩ := hc; exact ⟨x, rfl⟩
  | _ => simp only [ccode, Option.some.injEq] at hc; exact hc.symm
theorem ccode_seq {nt : Nat} {c : Code} {A B : IC} (hc : ccode P G nt c = some (.seq A B)) : ∃ a b, c = .seq a b ∧ ccode P G nt a = some A ∧ ccode P G nt b = some B := by
  have h := ccode_inv hc
  cases c with
  | region id ops d => cases d <;> simp at h
  | seq a b => simp only [IC.seq.injEq] at h; obtain ⟨A', B', ⟨rfl, rfl⟩, h1, h2⟩ := h; exact ⟨a, b, rfl, h1, h2⟩
  | _ => simp at h

theorem dS_sound (so : SelfOK P G self) {C : Cx} (cc : CC P G C) {h0 : HS} (hg0 : GOK G C h0) {nt n : Nat} {c0 : Frame} {cs : List Frame} :
    ∀ (ic : IC) (c : Code), ccode P G nt c = some ic → ∀ (s s' : St) (m m' : Md) (x : DX) (u : FrameMode) (h : HS) (a : Act) (Q : Exit → Act → List Frame → World → Prop), FR C h0 nt s a h → MdR C h m u →
      dS self ic m s = some (x, s', m') → (∀ a' h' u', FR C h0 nt s' a' h' → MdR C h' m' u' → LeftS C h' x ({ c0 with mode := u' } :: cs) Q a') → c.wpSIn (Fw none) n P Q a ({ c0 with mode := u } :: cs) h.w := by
  intro ic
  have other : ∀ (ic : IC) (c : Code), ccode P G nt c = some ic → ∀ (s s' : St) (m m' : Md) (x : DX) (u : FrameMode) (h : HS) (a : Act) (Q : Exit → Act → List Frame → World → Prop), FR C h0 nt s a h → MdR C h m u →
      (self ic s = some (x, s') ∧ m = m') → (∀ a' h' u', FR C h0 nt s' a' h' → MdR C h' m' u' → LeftS C h' x ({ c0 with mode := u' } :: cs) Q a') → c.wpSIn (Fw none) n P Q a ({ c0 with mode := u } :: cs) h.w := by
    intro ic c hc s s' m m' x u h a Q fr hm hd hk
    obtain ⟨hs, rfl⟩ := hd
    have frh : FR C h nt s a h := ⟨fr.own, fr.next, fr.ok, Ext.refl h, fr.size, fr.env, fr.dfs⟩
    refine wpSIn_of_wpIn rfl (so.code _ _ _ _ hs nt c hc none C h h a cc (hg0.ext fr.ext) (fun _ => rfl) frh n _ ?_)
    intro a' h' fr'
    exact hk a' h' u ⟨fr'.own, fr'.next, fr'.ok, fr.ext.trans fr'.ext, fr'.size, fr'.env, fr'.dfs⟩ (hm.ext fr'.ext)
  induction ic with
  | region is =>
    intro c hc s s' m m' x u h a Q fr hm hd hk
    simp only [dS] at hd
    cases hs : dopsS is m s with
    | none => simp [hs] at hd
    | some p =>
      obtain ⟨s1, m1⟩ := p
      simp only [hs, Option.some.injEq, Prod.mk.injEq] at hd
      obtain ⟨rfl, rfl, rfl⟩ := hd
      cases c with
      | region id ops d =>
        cases d with
        | false =>
          simp only [ccode, Option.map_eq_some_iff] at hc
          obtain ⟨is', his, hh⟩ := hc
          cases hh
          refine wpSIn_region ?_
          have := dopsS_sound (n := n) (Q := Q) (c0 := c0) (cs := cs) hg0 ops.toList 0 is (by simp) his s s1 m m1 u h a fr hm hs hk
          simpa [List.range_eq_range'] using this
        | true =>
          simp only [ccode, Option.map_eq_some_iff] at hc
          obtain ⟨_, _, hh⟩ := hc
          cases hh
      | _ => have := ccode_inv hc; simp at this
  | seq A B ihA ihB =>
    intro c hc s s' m m' x u h a Q fr hm hd hk
    simp only [dS] at hd
    obtain ⟨a', b', rfl, h1, h2⟩ := ccode_seq hc
    refine wpSIn_seq ?_
    cases hs : dS self A m s with
    | none => simp [hs] at hd
    | some p =>
      obtain ⟨y, s1, m1⟩ := p
      rw [hs] at hd
      refine ihA a' h1 s s1 m m1 y u h a _ fr hm hs ?_
      intro a1 hh1 u1 fr1 hm1
      cases y with
      | normal => exact ihB b' h2 s1 s' m1 m' x u1 hh1 a1 Q fr1 hm1 hd hk
      | _ =>
        simp only [Option.some.injEq, Prod.mk.injEq] at hd
        obtain ⟨rfl, rfl, rfl⟩ := hd
        exact hk a1 hh1 u1 fr1 hm1
  | _ =>
    intro c hc s s' m m' x u h a Q fr hm hd hk
    refine other _ c hc s s' m m' x u h a Q fr hm ?_ hk
    simp only [dS] at hd
    split at hd
    · rename_i hs
      simp only [Option.some.injEq, Prod.mk.injEq] at hd
      obtain ⟨rfl, rfl, rfl⟩ := hd
      exact ⟨hs, rfl⟩
    · cases hd

end
end Gv
