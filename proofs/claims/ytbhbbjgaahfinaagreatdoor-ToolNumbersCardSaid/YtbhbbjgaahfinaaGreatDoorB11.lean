/- Part of the proof of ToolNumbers by an evaluator that is proved sound: B11. No condition of its own. -/
import Derived.Test.YtbhbbjgaahfinaaGreatDoorB10
set_option linter.unusedVariables false
set_option linter.unusedSimpArgs false
/-! What is to be shown of the evaluator: code; calls. -/
namespace Gv
open Go
set_option linter.unusedVariables false

section
variable (P : Program) (G : Glob) (T : Tab) (self : IC → St → Option (DX × St))

/-- The context's reading of code is the compiler's. -/
def CC (C : Cx) : Prop := C.cr = fun nt c ic => ccode P G nt c = some ic

/-- What is asked where code is left. -/
def Left (C : Cx) (h' : HS) (x : DX) (Q : Exit → Act → World → Prop) (a' : Act) : Prop :=
  match x with
  | .normal => Q .normal a' h'.w
  | .exit id => Q (.exit id) a' h'.w
  | .goto l => Q (.goto l) a' h'.w
  | .ret => Q .ret a' h'.w
  | .panic d => ∀ v, R C h' d v → Q (.panic [{ v, recovered := false }]) a' h'.w

def CodeDoes (nt : Nat) (s : St) (x : DX) (s' : St) (wpc : (Exit → Act → World → Prop) → Act → World → Option Nat → Nat → Prop) : Prop :=
  ∀ (r : Option Nat) (C : Cx) (h0 h : HS) (a : Act), CC P G C → GOK G C h0 → (plainD s.dfs = true → r = none) → FR C h0 nt s a h →
    ∀ m Q, (∀ a' h', FR C h0 nt s' a' h' → Left C h' x Q a') → wpc Q a h.w r m

/-- The evaluator's answers hold. -/
def CodeOK : Prop := ∀ ic s x s', self ic s = some (x, s') → ∀ nt c, ccode P G nt c = some ic →
  CodeDoes P G nt s x s' (fun Q a w r m => c.wpIn (Fw r) m P Q a w)

/-- What a call does. -/
def FnDoes (C : Cx) (h : HS) (f : FuncId) (us : Array Value) (out : Out) (own' : Tr Obj) (next' : Nat) : Prop :=
  ∀ (r : Option Nat) m (K : Ending → World → Prop), (∀ v h', h'.own = own' → h'.next = next' → Ext h h' → OK C h' →
      (match out with | .ok d => R C h' d v → K (.returned v) h'.w | .pan d => R C h' d v → K (.panicked [{ v, recovered := false }]) h'.w)) →
    CallsIn (Fw r) m P f us h.w K

/-- What comes of a call: a function is entered; or the answer is there at once. -/
def CallDoes (C : Cx) (h : HS) (f : FuncId) (us : Array Value) (out : Out) (own' : Tr Obj) (next' : Nat) : Prop :=
  ((callFunc f us).run P h.w = .ok (.enter f us) h.w ∧ FnDoes P C h f us out own' next') ∨
  (∃ d v h', out = .ok d ∧ (callFunc f us).run P h.w = .ok (.value v) h'.w ∧ R C h' d v ∧ h'.own = own' ∧ h'.next = next' ∧ Ext h h' ∧ OK C h')

def CallOK : Prop := ∀ f args own next out own' next', dcall T self f args own next = some (out, own', next') →
  ∀ (C : Cx) (h : HS) (us : Array Value), CC P G C → GOK G C h → OK C h → h.own = own → h.next = next → RL C h false args us.toList →
    CallDoes P C h f us out own' next' ∧ (T.prim f = none → (callFunc f us).run P h.w = .ok (.enter f us) h.w ∧ FnDoes P C h f us out own' next')
/-- A round. -/
def RoundOK : Prop := ∀ id args own next out own' next', dround self id args own next = some (out, own', next') →
  ∀ (C : Cx) (h : HS) (us : Array Value), CC P G C → GOK G C h → OK C h → h.own = own → h.next = next → RL C h false args us.toList → id < h.next →
  ∃ f tmps assign body, (Instr.yield (h.M id).1 us).run P h.w = .ok (.round (h.M id).1 f tmps assign body) h.w ∧
    ∀ (r : Option Nat) m (K : Ending → World → Prop), (∀ v h', h'.own = own' → h'.next = next' → Ext h h' → OK C h' →
      (match out with | .ok d => R C h' d v → K (.returned v) h'.w | .pan d => True)) → RoundIn (Fw r) m P (h.M id).1 f tmps assign body h.w K
/-- The methods' table. -/
def MethOK : Prop := (∀ t name g, T.meth t name = some g → ∀ (v : Value) (args : Array Value) (w : World), (callMethod (.iface t v) name args).run P w = (callFunc g (#[v] ++ args)).run P w) ∧
  ∀ t, T.iface t = true → ∃ ms, P.underlying t = some (.interface ms)
end

section
variable {P : Program} {G : Glob} {T : Tab} {self : IC → St → Option (DX × St)} {C : Cx} {h : HS} {E : Tr D} {a : Act} {r : Option Nat}

theorem extract_one (x : Value) (ys : Array Value) : (#[x] ++ ys).extract 1 (#[x] ++ ys).size = ys := by
  apply Array.ext
  · simp
  · intro i h1 h2; simp [Array.getElem_append]

theorem Does.of_call {o : Oper} {f : FuncId} {us : Array Value} {out : Out} {own' : Tr Obj} {next' : Nat} (hnd : ∀ c, o.op ≠ .defer c)
    (hrun : (execOp a.eval o).run P h.w = (callFunc f us).run P h.w)
    (hf : CallDoes P C h f us out own' next') : Does P r o C h a out own' next' := by
  rcases hf with ⟨hen, hf⟩ | ⟨d, v, h', rfl, h1, h2, h3, h4, h5, h6⟩
  · intro m K Q hk
    refine ⟨fun _ _ => trivial, ?_⟩
    rw [show (Fw r).round = r from rfl, Oper.semAt_eq r _ o hnd, hrun, hen, Oper.uponIn_enter]
    refine ⟨fun hh => by simp [Fw, Fence.wide] at hh, hf r _ _ ?_⟩
    intro v h' h1 h2 h3 h4
    have := hk v h' h1 h2 h3 h4
    cases out with
    | ok d => exact this
    | pan d => exact this
  · exact Does.of_YN hnd ⟨v, h', .inl (by rw [hrun]; exact h1), h2, h3, h4, h5, h6⟩

theorem dstep_sound (hcall : CallOK P G T self) (hround : RoundOK P G self) (hmeth : MethOK P T) (cc : CC P G C) (hg : GOK G C h) (ok : OK C h) {o : Oper} {i : IOp} (hc : cop P G o = some i) (hi : ∀ f, i ≠ .defer f)
    (ho : ∀ x ∈ o.op.operands.toList, OpdOK C h G E a x) {out : Out} {own' : Tr Obj} {next' : Nat} (hd : dstep T self h.own h.next E i = some (out, own', next')) : Does P r o C h a out own' next' := by
  have hnd := not_defer hc hi
  have plain : ∀ {i : IOp}, cop P G o = some i → ok3 (dplain h.own h.next E i) = some (out, own', next') → Does P r o C h a out own' next' := by
    intro i hc hd
    unfold dplain at hd
    split at hd
    · rename_i d hp
      simp only [ok3, Option.some.injEq, Prod.mk.injEq] at hd
      obtain ⟨rfl, rfl, rfl⟩ := hd
      exact .of_YN hnd (dpure_sound ok hc ho hp)
    · cases hq : dimp h.own h.next E i with
      | none => simp [hq, ok3] at hd
      | some q =>
        obtain ⟨d, o1, n1⟩ := q
        simp only [hq, ok3, Option.some.injEq, Prod.mk.injEq] at hd
        obtain ⟨rfl, rfl, rfl⟩ := hd
        exact .of_YN hnd (dimp_sound ok hc ho hq)
  cases i with
  | call f args =>
    obtain ⟨ds, he, hd⟩ := some1 hd
    rcases cop_calls hc rfl with ⟨f', as, tys, args', e1, e2, e3⟩ | ⟨_, _, _, _, _, _, _, _, e3⟩ | ⟨_, _, _, _, _, _, _, _, _, e3⟩ | ⟨_, _, _, _, e3⟩ | ⟨_, _, _, _, _, e3⟩ | ⟨_, _, e3⟩ <;> cases e3
    have hr := opds_sound (C := C) (h := h) (a := a) e2 he (fun x hx => ho x (by rw [e1]; simp [Op.operands, Call.operands]; exact .inr (by simpa using hx)))
    have hcl := hcall _ _ _ _ _ _ _ hd C h (as.map a.eval) cc hg ok rfl rfl (by simpa using hr)
    refine Does.of_call hnd ?_ hcl.1
    simp [execOp, e1, resolve, Deferred.ofValue, Act.eval, invoke]
    done
  | callv f args =>
    obtain ⟨ds, he, hd⟩ := some1 hd
    rcases cop_calls hc rfl with ⟨_, _, _, _, _, _, e3⟩ | ⟨f0, as, tys, f', args', e1, e0, e2, e3⟩ | ⟨_, _, _, _, _, _, _, _, _, e3⟩ | ⟨_, _, _, _, e3⟩ | ⟨_, _, _, _, _, e3⟩ | ⟨_, _, e3⟩ <;> cases e3
    have hr := opds_sound (C := C) (h := h) (a := a) e2 he (fun x hx => ho x (by rw [e1]; simp [Op.operands, Call.operands]; exact .inr (by simpa using hx)))
    have of := ho f0 (by rw [e1]; simp [Op.operands, Call.operands]) _ e0
    split at hd
    · rename_i g first capt hf
      have hrf := of _ hf
      simp only [R] at hrf
      obtain ⟨fs, cs, hv, r1, r2⟩ := hrf
      have hcl := hcall _ _ _ _ _ _ _ hd C h (fs ++ as.map a.eval ++ cs) cc hg ok rfl rfl (by
        simp only [Array.toList_append, Array.toList_map, List.append_assoc]
        exact RL.append r1 (RL.append (by simpa using hr) r2))
      refine Does.of_call hnd ?_ hcl.1
      simp [execOp, e1, resolve, Deferred.ofValue, hv, invoke]
    · rename_i id hf
      have hrf := of _ hf
      simp only [R] at hrf
      obtain ⟨hid, _, hrf⟩ := hrf
      have hlive : ∃ nt env ps assign body st jump, h.own.get id = some (.loop nt env ps assign body st jump) := by
        unfold dround at hd
        split at hd
        · exact ⟨_, _, _, _, _, _, _, by assumption⟩
        · cases hd
      obtain ⟨_, _, _, _, _, _, _, hlive⟩ := hlive
      have hv := hrf _ _ _ _ _ _ _ hlive
      obtain ⟨f1, tmps, assign, body, hy, hrd⟩ := hround _ _ _ _ _ _ _ hd C h (as.map a.eval) cc hg ok rfl rfl (by simpa using hr) hid
      intro m K Q hk
      refine ⟨fun _ _ => trivial, ?_⟩
      rw [show (Fw r).round = r from rfl, Oper.semAt_eq r _ o hnd]
      have hrun : (execOp a.eval o).run P h.w = .ok (.round (h.M id).1 f1 tmps assign body) h.w := by
        simp [execOp, e1, resolve, Deferred.ofValue, hv, invoke, hy]
      rw [hrun, Oper.uponIn_round]
      refine ⟨fun hh => by simp [Fw, Fence.wide] at hh, hrd r _ _ ?_⟩
      intro v h' h1 h2 h3 h4
      have := hk v h' h1 h2 h3 h4
      cases out with
      | ok d => exact this
      | pan d => trivial
    · rename_i t name first capt hf
      have hrf := of _ hf
      simp only [R] at hrf
      obtain ⟨fs, cs, hv, r1, r2⟩ := hrf
      split at hd
      · rename_i hif
        obtain ⟨ms, hms⟩ := hmeth.2 t hif
        have hall : RL C h false (first ++ ds) (fs.toList ++ as.toList.map a.eval) := RL.append r1 (by simpa using hr)
        split at hd
        · rename_i t' d rest hfd
          rw [hfd] at hall
          obtain ⟨u0, us', hus, _, hu0, hrest⟩ := hall.cons_inv
          simp only [R] at hu0
          obtain ⟨u, rfl, hru⟩ := hu0
          obtain ⟨g, hm, hd⟩ := some1 hd
          have hcl := hcall _ _ _ _ _ _ _ hd C h (#[u] ++ us'.toArray) cc hg ok rfl rfl (by
            simp only [Array.toList_append]
            exact RL.cons (by simp) hru (by simpa using hrest))
          refine Does.of_call hnd ?_ hcl.1
          have hmm := hmeth.1 t' name g hm u us'.toArray h.w
          rw [← hmm]
          have hargs : fs ++ as.map a.eval = #[Value.iface t' u] ++ us'.toArray := by
            apply Array.ext'; simpa using hus
          simp only [execOp, e1, resolve, Deferred.ofValue, hv, invoke, Sem.run_bind, Sem.run_pure, Result.andThen_ok, hargs]
          have g0 : (#[Value.iface t' u] ++ us'.toArray)[0]? = some (.iface t' u) := by simp [Array.getElem?_append]
          have g1 : (#[Value.iface t' u] ++ us'.toArray).extract 1 (#[Value.iface t' u] ++ us'.toArray).size = us'.toArray := extract_one _ _
          rw [g0]
          simp only [Sem.run_bind, run_underlying hms, Result.andThen_ok]
          rw [g1]
        · cases hd
      · cases hd
    · cases hd
  | inv rc m args =>
    obtain ⟨ds, he, hd⟩ := some1 hd
    rcases cop_calls hc rfl with ⟨_, _, _, _, _, _, e3⟩ | ⟨_, _, _, _, _, _, _, _, e3⟩ | ⟨r0, m0, as, tys, r', args', e1, e0, e2, e3⟩ | ⟨_, _, _, _, e3⟩ | ⟨_, _, _, _, _, e3⟩ | ⟨_, _, e3⟩ <;> cases e3
    have hr := opds_sound (C := C) (h := h) (a := a) e2 he (fun x hx => ho x (by rw [e1]; simp [Op.operands, Call.operands]; exact .inr (by simpa using hx)))
    have of := ho r0 (by rw [e1]; simp [Op.operands, Call.operands]) _ e0
    split at hd
    · rename_i t d hf
      have hrf := of _ hf
      simp only [R] at hrf
      obtain ⟨u, hv, hru⟩ := hrf
      obtain ⟨g, hm, hd⟩ := some1 hd
      have hcl := hcall _ _ _ _ _ _ _ hd C h (#[u] ++ as.map a.eval) cc hg ok rfl rfl (by
        simp only [Array.toList_append, Array.toList_map]
        exact RL.cons (by simp) hru (by simpa using hr))
      refine Does.of_call hnd ?_ hcl.1
      have hmm := hmeth.1 t m g hm u (as.map a.eval) h.w
      rw [← hmm]
      simp only [execOp, e1, resolve, hv, invoke, Sem.run_bind, Sem.run_pure, Result.andThen_ok]
      have g0 : (#[Value.iface t u] ++ as.map a.eval)[0]? = some (.iface t u) := by simp [Array.getElem?_append]
      have g1 : (#[Value.iface t u] ++ as.map a.eval).extract 1 (#[Value.iface t u] ++ as.map a.eval).size = as.map a.eval := extract_one _ _
      rw [g0, g1]
    · cases hd
  | panic x =>
    simp only [dstep] at hd
    rcases cop_calls hc rfl with ⟨_, _, _, _, _, _, e3⟩ | ⟨_, _, _, _, _, _, _, _, e3⟩ | ⟨_, _, _, _, _, _, _, _, _, e3⟩ | ⟨x0, x', e1, e0, e3⟩ | ⟨_, _, _, _, _, e3⟩ | ⟨_, _, e3⟩ <;> cases e3
    split at hd
    · rename_i t d hf
      simp only [Option.some.injEq, Prod.mk.injEq] at hd
      obtain ⟨rfl, rfl, rfl⟩ := hd
      have hrx := ho x0 (by rw [e1]; simp [Op.operands]) _ e0 _ hf
      have hrx' := hrx
      simp only [R] at hrx'
      obtain ⟨u, hv, _⟩ := hrx'
      intro m K Q hk
      refine ⟨fun _ _ => trivial, ?_⟩
      rw [show (Fw r).round = r from rfl, Oper.semAt_eq r _ o hnd]
      have hrun : (execOp a.eval o).run P h.w = .halt (.panic (a.eval x0)) h.w := by
        simp [execOp, e1, hv, Instr.panic, goPanic]
      rw [hrun, Oper.uponIn_panic]
      exact hk _ h rfl rfl (Ext.refl h) ok hrx
    · cases hd
  | _ => exact plain hc hd
end
end Gv
