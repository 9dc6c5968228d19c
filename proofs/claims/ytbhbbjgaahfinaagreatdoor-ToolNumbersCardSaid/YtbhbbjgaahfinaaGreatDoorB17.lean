/- Part of the proof of ToolNumbers by an evaluator that is proved sound: B17. No condition of its own. -/
import Derived.RangeFuncLeaves
import Derived.RangeFuncCalls
import Derived.Test.YtbhbbjgaahfinaaGreatDoorB16
set_option linter.unusedVariables false
set_option linter.unusedSimpArgs false
/-! A frame on its way out; calls. -/
namespace Gv
open Go
set_option linter.unusedVariables false

section
variable {P : Program} {G : Glob} {T : Tab} {self : IC → St → Option (DX × St)} {C : Cx} {h h0 : HS}

theorem size_enter {args : List D} {us : Array Value} (hr : RL C h false args us.toList) {fn : Func} {np : Nat} (hnp : args.length = np) (hle : np ≤ fn.ntmps) :
    (us ++ Array.replicate (fn.ntmps - us.size) undef).size = fn.ntmps := by
  have := hr.length
  simp at this
  simp; omega

theorem FR.enter (ok : OK C h) {args : List D} {us : Array Value} (hr : RL C h false args us.toList) {fn : Func} {np : Nat} (hnp : args.length = np) (hle : np ≤ fn.ntmps) :
    FR C h fn.ntmps ⟨putArgs args 0 .nil, h.own, h.next, []⟩ { tmps := us ++ Array.replicate (fn.ntmps - us.size) undef, defers := [] } h where
  own := rfl
  next := rfl
  ok := ok
  ext := Ext.refl h
  size := size_enter hr hnp hle
  env := envR_args hr _
  dfs := rfl

/-- A deferred call. -/
theorem ddefer_sound (so : SelfOK P G self) (tab : TabOK P G T) (cc : CC P G C) (hg : GOK G C h) (ok : OK C h) {g : Nat} {args : List D} {us : Array Value} (hr : RL C h false args us.toList) {m m' : Md} {u : FrameMode} (hm : MdR C h m u)
    {own' : Tr Obj} {next' : Nat} (hd : ddefer T self g args m h.own h.next = some (m', own', next')) {n : Nat} {R : Ending → FrameMode → World → Prop}
    (hk : ∀ v h' u', h'.own = own' → h'.next = next' → Ext h h' → OK C h' → MdR C h' m' u' → R (.returned v) u' h'.w) :
    (∀ w, (callFunc g us).run P w = .ok (.enter g us) w) ∧ CallsDIn (Fw none) n P g us u h.w R := by
  unfold ddefer at hd
  obtain ⟨fi, hfi, hd⟩ := some1 hd
  obtain ⟨fn, c, h1, h2, h3, h4, h5, h6⟩ := cfunc_inv (tab _ _ hfi)
  refine ⟨enter_run h1 h2 h3 us, ?_⟩
  split at hd
  · rename_i hnp
    have fr := FR.enter ok hr hnp h6
    have fin : ∀ x E, (x = .normal ∨ x = .ret) → fi.res = [] → dS self fi.body m ⟨putArgs args 0 .nil, h.own, h.next, []⟩ = some (x, ⟨E, own', next', []⟩, m') → CallsDIn (Fw none) n P g us u h.w R := by
      intro x E hx hres hs
      refine callsDIn_of_wpSIn h1 h3 trivial ?_
      intro c0 cs hc0
      have hcc : ({ c0 with mode := u } : Frame) = c0 := by subst hc0; rfl
      rw [← hcc]
      refine dS_sound so cc hg fi.body c h4 _ _ m m' x u h _ _ fr hm hs ?_
      intro a' h' u' fr' hm'
      have hdf : a'.defers = [] := fr'.dfs
      have hres0 : fn.results.toList = [] := by
        rw [hres] at h5
        cases hl : fn.results.toList with
        | nil => rfl
        | cons r rs =>
          rw [hl] at h5
          cases r with
          | tmp t => simp [cres] at h5
          | cell t ty => simp only [cres] at h5; obtain ⟨_, _, _, _, h5⟩ := some2 h5; cases h5
      have hrun := results_eq (P := P) fn a'.tmps h'.w (us := []) (by rw [hres0]; rfl)
      rcases hx with rfl | rfl
      · exact ⟨hdf, u', rfl, _, hrun, hk _ h' u' fr'.own fr'.next fr'.ext fr'.ok hm'⟩
      · exact ⟨hdf, u', rfl, _, hrun, hk _ h' u' fr'.own fr'.next fr'.ext fr'.ok hm'⟩
    split at hd
    · rename_i hres hs
      simp only [Option.some.injEq, Prod.mk.injEq] at hd
      obtain ⟨rfl, rfl, rfl⟩ := hd
      exact fin .normal _ (.inl rfl) hres hs
    · rename_i hres hs
      simp only [Option.some.injEq, Prod.mk.injEq] at hd
      obtain ⟨rfl, rfl, rfl⟩ := hd
      exact fin .ret _ (.inr rfl) hres hs
    · cases hd
  · cases hd

/-- What is asked of a frame on its way out. -/
def Gone (C : Cx) (h : HS) (out : Out) (own' : Tr Obj) (next' : Nat) (K : Ending → World → Prop) : Prop :=
  ∀ v h', h'.own = own' → h'.next = next' → Ext h h' → OK C h' → (match out with | .ok d => R C h' d v → K (.returned v) h'.w | .pan d => R C h' d v → K (.panicked [{ v, recovered := false }]) h'.w)

theorem Gone.ext {h1 : HS} (e : Ext h h1) {out : Out} {own' : Tr Obj} {next' : Nat} {K : Ending → World → Prop} (hk : Gone C h out own' next' K) : Gone C h1 out own' next' K :=
  fun v h' a b c d => hk v h' a b (e.trans c) d

theorem dleave_sound (so : SelfOK P G self) (tab : TabOK P G T) (cc : CC P G C) {n : Nat} {fn : Func} {res : List RK} (hres : cres P fn.results.toList = some res) {E : Tr D} {tmps : Array Value} {K : Ending → World → Prop} :
    ∀ (dfs : List Dfr) (m : Md) (h : HS) (defers : List Deferred) (u : FrameMode) (out : Out) (own' : Tr Obj) (next' : Nat), GOK G C h → OK C h → envR C h E tmps → DR C h dfs defers → MdR C h m u → (m ≠ .recd) →
      dleave T self E res dfs m h.own h.next = some (out, own', next') → Gone C h out own' next' K → LeavesInM (Fw none) n P fn tmps K defers u h.w := by
  intro dfs
  induction dfs with
  | nil =>
    intro m h defers u out own' next' hg ok he hdr hm hrec hd hk
    simp only [DR] at hdr; subst hdr
    cases m with
    | recd => exact absurd rfl hrec
    | pan d =>
      simp only [dleave, Option.some.injEq, Prod.mk.injEq] at hd
      obtain ⟨rfl, rfl, rfl⟩ := hd
      obtain ⟨v, hr, rfl⟩ := hm
      exact hk v h rfl rfl (Ext.refl h) ok hr
    | ret =>
      simp only [MdR] at hm; subst hm
      simp only [dleave] at hd
      obtain ⟨ds, h1, hd⟩ := some1 hd
      simp only [Option.some.injEq, Prod.mk.injEq] at hd
      obtain ⟨rfl, rfl, rfl⟩ := hd
      obtain ⟨us, h2, h3⟩ := dress_sound ok he hres h1
      refine ⟨_, results_eq fn tmps h.w h2, ?_⟩
      refine hk _ h rfl rfl (Ext.refl h) ok ?_
      have hl := h3.length
      split
      · rename_i hu
        rw [hu] at hl
        match ds, us, hl, h3 with
        | [d], [v], _, h3 =>
          obtain ⟨_, _, e, _, hr, _⟩ := h3.cons_inv
          cases e
          exact hr
      · rename_i hu
        have : tupOf ds = .tup ds := by
          match ds, hl with
          | [], _ => rfl
          | [d], hl => exact absurd hl hu
          | _ :: _ :: _, _ => rfl
        rw [this]
        simp only [R]
        exact ⟨us.toArray, rfl, by simpa using h3⟩
  | cons d ds ih =>
    intro m h defers u out own' next' hg ok he hdr hm hrec hd hk
    have hu : u ≠ .run := by
      cases m with
      | recd => exact absurd rfl hrec
      | ret => simp only [MdR] at hm; subst hm; simp
      | pan d => obtain ⟨v, _, rfl⟩ := hm; simp
    cases d with
    | rnd => simp [dleave] at hd
    | mark id =>
      simp only [dleave] at hd
      split at hd
      · rename_i ho
        obtain ⟨b, ds', rfl, h1, h2, h3⟩ := hdr
        obtain rfl := h2 ho
        have hob := (ok.id _ _ ho).2.2.2
        simp only [OR] at hob
        have e : Ext h (h.drop id (.deferred none)) := Ext.drop ok ho _ (by rw [hob]; intro c e f; simp)
        have ok' := ok.drop ho e
        refine ⟨hu, .inl ⟨_, (h.drop id (.deferred none)).w, rfl, ?_, ih m (h.drop id (.deferred none)) ds' u out own' next' (hg.ext e) ok' (he.ext e) (h3.ext e) (hm.ext e) hrec hd (hk.ext e)⟩⟩
        have hlt := lt_of_heap hob
        have hget : (getObj (h.M id).1).run P h.w = .ok (.deferred (some [])) h.w := by simp [getObj, Sem.run, hob]
        have hset : (setObj (h.M id).1 (.deferred none)).run P h.w = .ok () (h.drop id (.deferred none)).w := by simp [setObj, Sem.run, HS.drop, hob]
        simp [Instr.takeDeferred, hget, hset]
      · cases hd
    | call g args =>
      simp only [dleave] at hd
      cases hdd : ddefer T self g args m h.own h.next with
      | none => simp [hdd] at hd
      | some p =>
        obtain ⟨m1, own1, next1⟩ := p
        simp only [hdd] at hd
        obtain ⟨df, ds', rfl, ⟨cap, htar, hr⟩, h3⟩ := hdr
        obtain ⟨henter, hcall⟩ := ddefer_sound (us := df.args ++ cap) (n := n - 1) (u := u) (R := fun
            | .returned _, u', w' => LeavesInM (Fw none) n P fn tmps K ds' (settle u') w'
            | .panicked chain, u', w' => LeavesInM (Fw none) n P fn tmps K ds' (raised u' chain) w'
            | .outgrown, _, w' => K .outgrown w') so tab cc hg ok (by simpa using hr) hm hdd (by
          intro v h' u' e1 e2 e3 e4 hm'
          cases m1 with
          | ret =>
            simp only [MdR] at hm'; subst hm'
            exact ih .ret h' ds' (settle .returning) out own' next' (hg.ext e3) e4 (he.ext e3) (h3.ext e3) (by simp [MdR, settle]) (by simp) (by rw [e1, e2]; exact hd) (hk.ext e3)
          | recd =>
            obtain ⟨v, rfl⟩ := hm'
            exact ih .ret h' ds' (settle _) out own' next' (hg.ext e3) e4 (he.ext e3) (h3.ext e3) (by simp [MdR, settle]) (by simp) (by rw [e1, e2]; exact hd) (hk.ext e3)
          | pan d =>
            obtain ⟨v, hr, rfl⟩ := hm'
            exact ih (.pan d) h' ds' (settle _) out own' next' (hg.ext e3) e4 (he.ext e3) (h3.ext e3) ⟨v, hr, by simp [settle]⟩ (by simp) (by rw [e1, e2]; exact hd) (hk.ext e3))
        refine ⟨hu, .inr ⟨fun hh => by simp [Fw, Fence.wide] at hh, .func g, cap, g, df.args ++ cap, htar, ?_, fun _ _ => trivial, hcall⟩⟩
        rw [htar]
        exact henter h.w

/-- A primitive's answer. -/
def PrimOK (P : Program) (T : Tab) : Prop := ∀ f p, T.prim f = some p → ∀ (C : Cx) (h : HS) args d (us : Array Value), OK C h → dprim h.own p args = some d → RL C h false args us.toList →
  ∃ v, (callFunc f us).run P h.w = .ok (.value v) h.w ∧ R C h d v

theorem call_ok (so : SelfOK P G self) (tab : TabOK P G T) (prims : PrimOK P T) : CallOK P G T self := by
  intro f args own next out own' next' hd C h us cc hg ok e1 e2 hr
  subst e1; subst e2
  unfold dcall at hd
  split at hd
  · rename_i p hp
    obtain ⟨d, h1, hd⟩ := some1 hd
    simp only [Option.some.injEq, Prod.mk.injEq] at hd
    obtain ⟨rfl, rfl, rfl⟩ := hd
    obtain ⟨v, h2, h3⟩ := prims f p hp C h args d us ok h1 hr
    exact ⟨.inr ⟨d, v, h, rfl, h2, h3, rfl, rfl, Ext.refl h, ok⟩, fun hn => by rw [hp] at hn; cases hn⟩
  · obtain ⟨fi, hfi, hd⟩ := some1 hd
    obtain ⟨fn, c, h1, h2, h3, h4, h5, h6⟩ := cfunc_inv (tab _ _ hfi)
    suffices hs : FnDoes P C h f us out own' next' from ⟨.inl ⟨enter_run h1 h2 h3 us h.w, hs⟩, fun _ => ⟨enter_run h1 h2 h3 us h.w, hs⟩⟩
    split at hd
    · rename_i hnp
      have key : ∀ (m : Nat) (K : Ending → World → Prop), Gone C h out own' next' K → CallsIn (Fw none) m P f us h.w K := by
        intro m K hk
        have fr := FR.enter ok hr hnp h6
        refine callsIn_of_wp_marks h1 h3 trivial ?_
        cases hs : self fi.body ⟨putArgs args 0 .nil, h.own, h.next, []⟩ with
        | none => simp [hs] at hd
        | some q =>
          obtain ⟨x, s'⟩ := q
          rw [hs] at hd
          refine so.code _ _ _ _ hs fn.ntmps c h4 none C h h _ cc hg (fun _ => rfl) fr m _ ?_
          intro a' h' fr'
          have go : ∀ (md : Md) (u : FrameMode), MdR C h' md u → md ≠ .recd → dleave T self s'.E fi.res s'.dfs md s'.own s'.next = some (out, own', next') → LeavesInM (Fw none) m P fn a'.tmps K a'.defers u h'.w := by
            intro md u hm hrec hd
            rw [← fr'.own, ← fr'.next] at hd
            exact dleave_sound so tab cc h5 s'.dfs md h' a'.defers u out own' next' (hg.ext fr'.ext) fr'.ok fr'.env fr'.dfs hm hrec hd (hk.ext fr'.ext)
          cases x with
          | normal => exact go .ret .returning rfl (by simp) hd
          | ret => exact go .ret .returning rfl (by simp) hd
          | panic d => exact fun v hv => go (.pan d) _ ⟨v, hv, rfl⟩ (by simp) hd
          | exit id => simp at hd
          | goto l => simp at hd
      intro r m K hk
      cases r with
      | none => exact key m K hk
      | some l => exact CallsIn.inRound l (key m K hk)
    · cases hd
end
end Gv
