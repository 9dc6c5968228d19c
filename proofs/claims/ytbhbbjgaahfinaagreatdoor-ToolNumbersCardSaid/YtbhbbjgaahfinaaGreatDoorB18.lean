/- Part of the proof of ToolNumbers by an evaluator that is proved sound: B18. No condition of its own. -/
import Derived.RangeFuncRecord
import Derived.Test.YtbhbbjgaahfinaaGreatDoorB17
set_option linter.unusedVariables false
set_option linter.unusedSimpArgs false
/-! Ranges over functions: rounds; the statement. -/
namespace Gv
open Go
set_option linter.unusedVariables false

section
variable {P : Program} {G : Glob} {T : Tab} {self : IC → St → Option (DX × St)} {C : Cx} {h h0 : HS}

theorem putParams_size : ∀ {ps : List Nat} {ds : List D} {E E' : Tr D}, putParams ps ds E = some E' → ps.length = ds.length
  | [], [], _, _, _ => rfl
  | p :: ps, d :: ds, E, E', hd => by
    simp only [putParams] at hd
    simp [putParams_size hd]
  | [], _ :: _, _, _, hd => by simp [putParams] at hd
  | _ :: _, [], _, _, hd => by simp [putParams] at hd

theorem envR_params : ∀ {ps : List Nat} {ds : List D} {us : List Value} {E E' : Tr D} {tmps : Array Value}, putParams ps ds E = some E' → RL C h false ds us → envR C h E tmps → (∀ p ∈ ps, p < tmps.size) →
    envR C h E' ((ps.zip us).foldl (fun tmps (t, a) => tmps.setIfInBounds t a) tmps) ∧ ((ps.zip us).foldl (fun (tmps : Array Value) (t, a) => tmps.setIfInBounds t a) tmps).size = tmps.size
  | [], [], us, E, E', tmps, hd, hr, he, hp => by
    simp only [putParams, Option.some.injEq] at hd; subst hd
    obtain rfl := hr.nil_inv
    exact ⟨he, rfl⟩
  | p :: ps, d :: ds, us, E, E', tmps, hd, hr, he, hall => by
    simp only [putParams] at hd
    obtain ⟨u, rest, rfl, _, hu, hr⟩ := hr.cons_inv
    have hp := hall p (List.mem_cons_self ..)
    have he' : envR C h (E.put p (some d)) (tmps.setIfInBounds p u) := by
      intro t d' ht
      by_cases h1 : t = p
      · subst h1
        rw [Tr.get_put_eq] at ht; cases ht
        exact ⟨u, by simp [hp], hu⟩
      · rw [Tr.get_put_ne _ _ h1] at ht
        obtain ⟨x, h2, h3⟩ := he t d' ht
        exact ⟨x, by rw [Array.getElem?_setIfInBounds_ne (fun hh => h1 hh.symm)]; exact h2, h3⟩
    obtain ⟨h1, h2⟩ := envR_params hd hr he' (fun q hq => by simpa using hall q (List.mem_cons_of_mem _ hq))
    exact ⟨by simpa using h1, by simpa using h2⟩
  | [], _ :: _, us, E, E', tmps, hd, hr, he, _ => by simp [putParams] at hd
  | _ :: _, [], us, E, E', tmps, hd, hr, he, _ => by simp [putParams] at hd

def lsOf : LS → LoopState
  | .ready => .ready
  | .busy => .busy
  | .done => .done
def pendR (C : Cx) (nt : Nat) : Option Code → Option IC → Prop
  | none, none => True
  | some c, some j => C.cr nt c j
  | _, _ => False

/-- The record as it is kept. -/
theorem OR.loop_iff {id nt : Nat} {env : Tr D} {ps : List Nat} {assign body : IC} {st : LS} {jump : Option IC} : OR C h id (.loop nt env ps assign body st jump) ↔
    ∃ r : Loop, h.w.heap[(h.M id).1]? = some (.loop r) ∧ r.tmps.size = nt ∧ envR C h env r.tmps ∧ r.params.toList = ps ∧
      C.cr nt r.assign assign ∧ C.cr nt r.body body ∧ r.state = lsOf st ∧ pendR C nt r.pending jump := by
  simp only [OR]
  refine exists_congr fun r => ?_
  cases st <;> cases jump <;> cases hp : r.pending <;> simp [lsOf, pendR, hp]

/-- The record turns. -/
theorem loop_turn (ok : OK C h) {id nt : Nat} {env : Tr D} {ps : List Nat} {assign body : IC} {st : LS} {jump : Option IC} (hget : h.own.get id = some (.loop nt env ps assign body st jump)) {r : Loop} (hr : h.w.heap[(h.M id).1]? = some (.loop r))
    (r' : Loop) {st' : LS} {jump' : Option IC} (h1 : r'.tmps = r.tmps) (h2 : r'.params = r.params) (h3 : r'.assign = r.assign) (h4 : r'.body = r.body) (h5 : r'.state = lsOf st')
    (h6 : pendR C nt r'.pending jump') :
    Ext h (h.setObj id (.loop r') (.loop nt env ps assign body st' jump')) ∧ OK C (h.setObj id (.loop r') (.loop nt env ps assign body st' jump')) ∧ (h.setObj id (.loop r') (.loop nt env ps assign body st' jump')).w = h.w.putObj (h.M id).1 (.loop r') := by
  have hob := (ok.id _ _ hget).2.2.2
  obtain ⟨r0, g1, g2, g3, g4, g5, g6, g7, g8⟩ := OR.loop_iff.1 hob
  rw [hr] at g1
  obtain rfl : r = r0 := by simpa using g1
  have e : Ext h (h.setObj id (.loop r') (.loop nt env ps assign body st' jump')) := Ext.setObj ok hget _ (by simp [Obj.sim]) (by rw [hr]; intro c e f hh; simp at hh)
  have hlt := lt_of_heap hr
  refine ⟨e, ok.setObj hget e ?_, rfl⟩
  exact OR.loop_iff.2 ⟨r', setObj_self hlt, by rw [h1]; exact g2, by rw [h1]; exact g3.ext e, by rw [h2]; exact g4, by rw [h3]; exact g5, by rw [h4]; exact g6, h5, h6⟩

theorem round_ok (so : SelfOK P G self) : RoundOK P G self := by
  intro id args own next out own' next' hd C h us cc hg ok e1 e2 hr hid
  subst e1; subst e2
  unfold dround at hd
  split at hd
  · rename_i nt env ps assign body hget
    split at hd
    · rename_i hall
      obtain ⟨E, hE, hd⟩ := some1 hd
      have hob := (ok.id _ _ hget).2.2.2
      obtain ⟨r, g1, g2, g3, g4, g5, g6, g7, g8⟩ := OR.loop_iff.1 hob
      have hl := hr.length
      have hps := putParams_size hE
      have hsz : us.size = r.params.size := by
        have : r.params.size = ps.length := by rw [← g4]; simp
        simp at hl; omega
      rw [cc] at g5 g6
      refine ⟨_, _, _, _, run_yield g1 hsz, ?_⟩
      intro rr m K hk
      refine roundIn_of_wpIn trivial ?_
      rw [show (Fw rr).inRound (h.M id).1 = Fw (some (h.M id).1) from rfl]
      have hzip : (r.params.zip us).foldl (fun (tmps : Array Value) (x : Tmp × Value) => tmps.setIfInBounds x.1 x.2) r.tmps = (ps.zip us.toList).foldl (fun (tmps : Array Value) (x : Tmp × Value) => tmps.setIfInBounds x.1 x.2) r.tmps := by
        rw [← g4, ← Array.toList_zip, ← Array.foldl_toList]
      obtain ⟨p1, p2⟩ := envR_params hE hr g3 (fun p hp => by
        rw [g2]; have := List.all_eq_true.1 hall p hp; simpa using this)
      have fr : FR C h nt ⟨E, h.own, h.next, [.rnd]⟩ { tmps := (r.params.zip us).foldl (fun (tmps : Array Value) (x : Tmp × Value) => tmps.setIfInBounds x.1 x.2) r.tmps, defers := [] } h :=
        ⟨rfl, rfl, ok, Ext.refl h, by simp only [hzip]; rw [← g2]; exact p2, by simp only [hzip]; exact p1, rfl, rfl⟩
      cases ha : self assign ⟨E, h.own, h.next, [.rnd]⟩ with
      | none => simp [ha] at hd
      | some q =>
        obtain ⟨x, s1⟩ := q
        rw [ha] at hd
        refine so.code _ _ _ _ ha nt _ g5 (some (h.M id).1) C h h _ cc hg (fun hh => by simp [plainD] at hh) fr m _ ?_
        intro a1 h1 fr1
        split at hd
        · rename_i E1 own1 next1 hs1
          simp only [Option.some.injEq, Prod.mk.injEq] at hs1
          obtain ⟨rfl, rfl⟩ := hs1
          split at hd
          · rename_i nt1 env1 ps1 assign1 body1 hget1
            have hM : h1.M id = h.M id := fr1.ext.M _ hid
            have hown1 : h1.own.get id = some (.loop nt1 env1 ps1 assign1 body1 .ready none) := by rw [fr1.own]; exact hget1
            obtain ⟨r1, k1, k2, k3, k4, k5, k6, k7, k8⟩ := OR.loop_iff.1 (fr1.ok.id _ _ hown1).2.2.2
            have hpend : r1.pending = none := by
              cases hp : r1.pending with
              | none => rfl
              | some c => rw [hp] at k8; exact k8.elim
            simp only [Left, Exit.then]
            obtain ⟨t1, t2, t3⟩ := loop_turn fr1.ok hown1 k1 { r1 with state := .busy } (st' := .busy) (jump' := none) rfl rfl rfl rfl rfl (by rw [hpend]; trivial)
            refine ⟨_, by rw [← hM]; exact run_beginRound k1 k7, ?_⟩
            rw [← hM, ← t3]
            have fr2 : FR C h1 nt ⟨E1, own1.put id (some (.loop nt1 env1 ps1 assign1 body1 .busy none)), next1, [.rnd]⟩ a1 (h1.setObj id (.loop { r1 with state := .busy }) (.loop nt1 env1 ps1 assign1 body1 .busy none)) :=
              ⟨by have := fr1.own; simp only at this; simp only [HS.setObj, this], fr1.next, t2, t1, fr1.size, fr1.env.ext t1, fr1.dfs.ext t1⟩
            cases hb : self body ⟨E1, own1.put id (some (.loop nt1 env1 ps1 assign1 body1 .busy none)), next1, [.rnd]⟩ with
            | none => simp [hb] at hd
            | some q =>
              obtain ⟨x, s2⟩ := q
              rw [hb] at hd
              rw [hM]
              refine so.code _ _ _ _ hb nt _ g6 (some (h.M id).1) C h1 _ a1 cc (hg.ext fr1.ext) (fun hh => by simp [plainD] at hh) fr2 m _ ?_
              intro a2 h2 fr3
              split at hd
              · rename_i y E2 own2 next2 hs2
                simp only [Option.some.injEq, Prod.mk.injEq] at hs2
                obtain ⟨rfl, rfl⟩ := hs2
                split at hd
                · rename_i nt2 env2 ps2 assign2 body2 hget2
                  have hid1 : id < h1.next := Nat.lt_of_lt_of_le hid fr1.ext.next
                  have hM2 : h2.M id = h.M id := by rw [fr3.ext.M _ hid1, hM]
                  have hown2 : h2.own.get id = some (.loop nt2 env2 ps2 assign2 body2 .busy none) := by rw [fr3.own]; exact hget2
                  obtain ⟨r2, l1, l2, l3, l4, l5, l6, l7, l8⟩ := OR.loop_iff.1 (fr3.ok.id _ _ hown2).2.2.2
                  have eall : Ext h h2 := fr1.ext.trans fr3.ext
                  -- how a round ends
                  have fin : ∀ (jc : Option Code) (st' : LS) (jump' : Option IC), (if jc.isNone then LoopState.ready else .done) = lsOf st' →
                      pendR C nt2 jc jump' →
                      out = .ok (.v (.bool jc.isNone)) → own' = own2.put id (some (.loop nt2 env2 ps2 assign2 body2 st' jump')) → next' = next2 →
                      ∃ v w', (Instr.endRound (h.M id).1 jc).run P h2.w = .ok v w' ∧ K (.returned v) w' := by
                    intro jc st' jump' q1 q2 q3 q4 q5
                    obtain ⟨u1, u2, u3⟩ := loop_turn fr3.ok hown2 l1 { r2 with state := if jc.isNone then .ready else .done, pending := jc } (st' := st') (jump' := jump') rfl rfl rfl rfl q1 q2
                    rw [← hM2]
                    refine ⟨_, _, run_endRound jc l1, ?_⟩
                    rw [← u3]
                    have := hk (.bool jc.isNone) _ (by have := fr3.own; simp only at this; rw [q4]; simp only [HS.setObj, this]) (by rw [q5]; exact fr3.next) (eall.trans u1) u2
                    rw [q3] at this
                    exact this (by simp [R])
                  cases x with
                  | normal =>
                    simp only [Option.some.injEq, Prod.mk.injEq] at hd
                    obtain ⟨rfl, rfl, rfl⟩ := hd
                    exact fin none .ready none rfl trivial rfl rfl rfl
                  | ret =>
                    simp only [Option.some.injEq, Prod.mk.injEq] at hd
                    obtain ⟨rfl, rfl, rfl⟩ := hd
                    exact fin (some .ret) .done (some .ret) rfl (by simp only [pendR]; rw [cc]; rfl) rfl rfl rfl
                  | exit k =>
                    simp only [Option.some.injEq, Prod.mk.injEq] at hd
                    obtain ⟨rfl, rfl, rfl⟩ := hd
                    exact fin (some (.exit k)) .done (some (.exit k)) rfl (by simp only [pendR]; rw [cc]; rfl) rfl rfl rfl
                  | goto k =>
                    simp only [Option.some.injEq, Prod.mk.injEq] at hd
                    obtain ⟨rfl, rfl, rfl⟩ := hd
                    exact fin (some (.goto k)) .done (some (.goto k)) rfl (by simp only [pendR]; rw [cc]; rfl) rfl rfl rfl
                  | panic d => simp at hd
                · cases hd
              · cases hd
          · cases hd
        · cases hd
    · cases hd
  · cases hd

theorem range_ok (so : SelfOK P G self) (hcall : CallOK P G T self) (nt : Nat) (f : Operand) (ps : List Nat) (A B : Code) (f' : Opd) (A' B' : IC) (hf : copd G f = some f') (hA : ccode P G nt A = some A') (hB : ccode P G nt B = some B')
    (s : St) (x : DX) (s' : St) (hd : stepC T self (.rangeF nt f' ps A' B') s = some (x, s')) :
    CodeDoes P G nt s x s' (fun Q a w r m => (Code.rangeFunc f ps.toArray A B).wpIn (Fw r) m P Q a w) := by
  intro r C h0 h a cc hg hrd fr m Q hk
  simp only [stepC] at hd
  split at hd
  · rename_i hpl
    obtain rfl := hrd hpl
    split at hd
    · rename_i g first capt hev
      split at hd
      · cases hd
      · rename_i hprim
        have hg1 := hg.ext fr.ext
        have hrf := opdOK_of (C := C) (h := h) (a := a) hg1 fr.env f f' hf _ hev
        simp only [R] at hrf
        obtain ⟨fs, cs, hv, r1, r2⟩ := hrf
        -- the two blocks
        have hb := h.w.heap.size
        have ok1 : OK C (h.alloc (.deferred (some [])) .dfr) := fr.ok.alloc (by simp only [OR]; rw [alloc_M_new]; exact alloc_new)
        have e1 : Ext h (h.alloc (.deferred (some [])) .dfr) := Ext.alloc fr.ok _ _
        refine wpIn_rangeFunc ?_
        intro fn _
        let rec0 : Loop := { state := .ready, pending := none, fn := fn, tmps := a.tmps, params := ps.toArray, assign := A, body := B, defers := h.w.heap.size }
        let h1 := h.alloc (.deferred (some [])) .dfr
        let h2 := h1.alloc (.loop rec0) (.loop nt s.E ps A' B' .ready none)
        have e2 : Ext h1 h2 := Ext.alloc ok1 _ _
        have hM2 : h2.M h1.next = (h1.w.heap.size, 0) := alloc_M_new
        have ok2 : OK C h2 := ok1.alloc (OR.loop_iff.2 ⟨rec0, by rw [hM2]; exact alloc_new, fr.size, (fr.env.ext e1).ext e2, by simp [rec0], by rw [cc]; exact hA, by rw [cc]; exact hB, rfl, by simp [rec0, pendR]⟩)
        have hw2 : h2.w = (h.w.alloc (.deferred (some []))).alloc (.loop rec0) := rfl
        have hsz1 : h1.w.heap.size = h.w.heap.size + 1 := by simp [h1, HS.alloc]
        have hn1 : h1.next = s.next + 1 := by simp [h1, HS.alloc, fr.next]
        have hown2 : h2.own = (s.own.put s.next (some .dfr)).put (s.next + 1) (some (.loop nt s.E ps A' B' .ready none)) := by
          simp only [h2, h1, HS.alloc, fr.own, fr.next]
        have hnext2 : h2.next = s.next + 2 := by simp only [h2, h1, HS.alloc, fr.next]
        cases hc : dcall T self g (first ++ (.yl (s.next + 1) :: capt)) ((s.own.put s.next (some .dfr)).put (s.next + 1) (some (.loop nt s.E ps A' B' .ready none))) (s.next + 2) with
        | none => simp [hc] at hd
        | some q =>
          obtain ⟨out, own', next'⟩ := q
          rw [hc] at hd
          have hyl : R C h2 (.yl (s.next + 1)) (.func (.yield h1.w.heap.size) #[] #[]) := by
            simp only [R]
            refine ⟨by rw [hnext2]; omega, rfl, fun _ _ _ _ _ _ _ _ => ?_⟩
            rw [← hn1, hM2]
          have hargs : RL C h2 false (first ++ (.yl (s.next + 1) :: capt)) (fs ++ #[Value.func (.yield h1.w.heap.size) #[] #[]] ++ cs).toList := by
            simp only [Array.toList_append, List.append_assoc]
            exact ((r1.ext e1).ext e2).append (RL.cons (by simp) hyl ((r2.ext e1).ext e2))
          obtain ⟨_, hent⟩ := hcall _ _ _ _ _ _ _ hc C h2 _ cc ((hg1.ext e1).ext e2) ok2 hown2 hnext2 hargs
          obtain ⟨hrun, hdoes⟩ := hent (by simpa using hprim)
          refine ⟨h1.w.heap.size, [{ target := .collected h.w.heap.size, args := #[] }], h2.w, { target := .fn (.func g) cs, args := fs ++ #[.func (.yield h1.w.heap.size) #[] #[]] }, h2.w, g, fs ++ #[Value.func (.yield h1.w.heap.size) #[] #[]] ++ cs, h2.w, ?_, ?_, fun _ _ => trivial, ?_, fun hh => by simp [Fw, Fence.wide] at hh, ?_⟩
          · rw [show (Fw none).round = none from rfl, run_enterLoop_outer, hw2, hsz1]
          · have hcst : ∀ v, a.eval (.const v) = v := fun _ => rfl
            simp [rangeCall, resolve, Deferred.ofValue, hv, hcst]
          · simpa [invoke] using hrun
          · refine hdoes none _ _ ?_
            intro v h3 k1 k2 k3 k4
            have e03 : Ext h h3 := (e1.trans e2).trans k3
            have hid2 : s.next + 1 < h2.next := by rw [hnext2]; omega
            have hM3 : h3.M (s.next + 1) = (h1.w.heap.size, 0) := by rw [k3.M _ hid2, ← hn1]; exact hM2
            cases out with
            | pan d => simp at hd
            | ok d =>
              intro _
              simp only at hd
              -- the record at the end
              have fin : ∀ nt' env' ps' A1 B1 st jump, own'.get (s.next + 1) = some (.loop nt' env' ps' A1 B1 st jump) → st ≠ .busy →
                  ∃ (r3 : Loop) (h4 : HS), h3.w.heap[h1.w.heap.size]? = some (.loop r3) ∧ r3.state ≠ .busy ∧ pendR C nt' r3.pending jump ∧ h4.w = h3.w.putObj h1.w.heap.size (.loop { r3 with state := .exhausted }) ∧
                    FR C h0 nt ⟨s.E, own'.put (s.next + 1) none, next', .mark s.next :: s.dfs⟩ { a with defers := [{ target := .collected h.w.heap.size, args := #[] }] ++ a.defers } h4 := by
                intro nt' env' ps' A1 B1 st jump ho hst
                have ho3 : h3.own.get (s.next + 1) = some (.loop nt' env' ps' A1 B1 st jump) := by rw [k1]; exact ho
                obtain ⟨r3, l1, l2, l3, l4, l5, l6, l7, l8⟩ := OR.loop_iff.1 (k4.id _ _ ho3).2.2.2
                rw [hM3] at l1
                have e4 : Ext h3 (h3.drop (s.next + 1) (.loop { r3 with state := .exhausted })) := Ext.drop k4 ho3 _ (by rw [hM3]; intro c e f; rw [l1]; simp)
                refine ⟨r3, h3.drop (s.next + 1) (.loop { r3 with state := .exhausted }), l1, ?_, l8, by simp only [HS.drop, hM3]; rfl, ?_⟩
                · rw [l7]; cases st <;> simp [lsOf] at hst ⊢
                · refine ⟨by simp only [HS.drop, k1], k2, k4.drop ho3 e4, (fr.ext.trans e03).trans e4, fr.size, (fr.env.ext e03).ext e4, ?_⟩
                  refine ⟨h.w.heap.size, a.defers, rfl, ?_, ?_, (fr.dfs.ext e03).ext e4⟩
                  · have := e03.next
                    have h5 : h.next < h2.next := by rw [hnext2, fr.next]; omega
                    have h6 := k3.next
                    simp only [HS.drop]
                    rw [← fr.next]; omega
                  · intro _
                    have h5 : s.next < h2.next := by rw [hnext2]; omega
                    have h6 : s.next < h1.next := by rw [hn1]; omega
                    simp only [HS.drop]
                    rw [k3.M _ h5, e2.M _ h6, ← fr.next]
                    show h.w.heap.size = ((h.alloc (.deferred (some [])) .dfr).M h.next).1
                    rw [alloc_M_new]
              split at hd
              · rename_i nt' env' ps' A1 B1 ho
                simp only [Option.some.injEq, Prod.mk.injEq] at hd
                obtain ⟨rfl, rfl⟩ := hd
                obtain ⟨r3, h4, q1, q2, q3, q4, q5⟩ := fin _ _ _ _ _ _ _ ho (by simp)
                have hp : r3.pending = none := by
                  cases hp : r3.pending with
                  | none => rfl
                  | some c => rw [hp] at q3; exact q3.elim
                refine ⟨none, h4.w, by rw [q4, ← hp]; exact run_endLoop q1 q2, ?_⟩
                exact hk _ h4 q5
              · rename_i nt' env' ps' A1 B1 c ho
                split at hd
                · rename_i hnt; subst hnt
                  obtain ⟨r3, h4, q1, q2, q3, q4, q5⟩ := fin _ _ _ _ _ _ _ ho (by simp)
                  cases hp : r3.pending with
                  | none => rw [hp] at q3; exact q3.elim
                  | some cd =>
                    rw [hp] at q3
                    simp only [pendR] at q3
                    rw [cc] at q3
                    refine ⟨some cd, h4.w, by rw [q4, ← hp]; exact run_endLoop q1 q2, ?_⟩
                    exact so.code _ _ _ _ hd nt' cd q3 none C h0 h4 _ cc hg (fun _ => rfl) q5 m Q hk
                · cases hd
              · cases hd
    · cases hd
  · cases hd
end
end Gv
