/- Part of the proof of ToolNumbers by an evaluator that is proved sound: B12. No condition of its own. -/
import Derived.Test.YtbhbbjgaahfinaaGreatDoorB11
set_option linter.unusedVariables false
set_option linter.unusedSimpArgs false
/-! A region in the order of the text. -/
namespace Gv
open Go
set_option linter.unusedVariables false

section
variable {P : Program} {G : Glob} {T : Tab} {self : IC → St → Option (DX × St)} {C : Cx} {h0 h : HS} {a : Act} {r : Option Nat}

theorem cins_inv {nt : Nat} {y : Nat → Option (Option Nat)} {o : Oper} {i : Ins} (hc : cins P G nt y o = some i) :
    (∀ t, o.dst = some t → t < nt) ∧ i.dst = o.dst ∧ i.op = (cop P G o).getD .bad ∧
    ((o.guard = none ∧ i.guard = none) ∨ ∃ j b t, o.guard = some (j, b) ∧ y j = some (some t) ∧ i.guard = some (t, b)) := by
  unfold cins at hc
  by_cases hlt : dstOK nt o.dst = true
  · rw [if_pos hlt] at hc
    refine ⟨fun t ht => by rw [ht] at hlt; simpa [dstOK] using hlt, ?_⟩
    split at hc
    · rename_i hgo
      simp only [Option.some.injEq] at hc; subst hc
      exact ⟨rfl, rfl, .inl ⟨hgo, rfl⟩⟩
    · rename_i j b hgo
      split at hc
      · rename_i t hy
        simp only [Option.some.injEq] at hc; subst hc
        exact ⟨rfl, rfl, .inr ⟨j, b, t, hgo, hy, rfl⟩⟩
      · cases hc
  · rw [if_neg hlt] at hc; cases hc

/-- Is the operation done? As the machine asks, and as the evaluator does. -/
theorem guard_sound {nt : Nat} {ops : Array Oper} {o : Oper} {i : Ins} (hc : cins P G nt (dstOf ops) o = some i) {E : Tr D} (he : envR C h E a.tmps) {b : Bool} (hg : dguard E i.guard = some b) :
    Region.wanted o (yielded ops a.tmps) = b := by
  obtain ⟨_, _, _, hgd⟩ := cins_inv hc
  rcases hgd with ⟨hgo, hgi⟩ | ⟨j, w, t, hgo, hy, hgi⟩
  · rw [hgi] at hg
    simp only [dguard, Option.some.injEq] at hg
    simp [Region.wanted, hgo, hg]
  · rw [hgi] at hg
    simp only [Region.wanted, hgo]
    have hdst : (ops[j]?).bind (·.dst) = some t := by
      simp only [dstOf, Option.map_eq_some_iff] at hy
      obtain ⟨oj, h1, h2⟩ := hy
      simp [h1, h2]
    simp only [dguard] at hg
    split at hg
    · rename_i b' hb
      obtain ⟨u, h1, h2⟩ := he t _ hb
      simp only [R] at h2; subst h2
      simp only [Option.some.injEq] at hg; subst hg
      simp [yielded, hdst, h1]
    · rename_i hb
      obtain ⟨u, h1, h2⟩ := he t _ hb
      simp only [R, RL] at h2
      obtain ⟨cs, rfl, _⟩ := h2
      simp only [Option.some.injEq] at hg; subst hg
      simp [yielded, hdst, h1]
    · cases hg

/-- What follows an operation, or a panic in it. -/
def Next1 (C : Cx) (h0 : HS) (nt : Nat) (s' : St) (x : DX) (K : Act → World → Prop) (Q : Exit → Act → World → Prop) : Prop :=
  ∀ a' h', FR C h0 nt s' a' h' → match x with
    | .normal => K a' h'.w
    | .panic d => ∀ v, R C h' d v → Q (.panic [{ v, recovered := false }]) a' h'.w
    | _ => False

theorem FR.put {nt : Nat} {s : St} {dst : Option Nat} {d : D} {v : Value} {own' : Tr Obj} {next' : Nat} {h' : HS} (fr : FR C h0 nt s a h) (hd : ∀ t, dst = some t → t < nt) (e : Ext h h') (ok : OK C h') (ho : h'.own = own') (hn : h'.next = next') (hr : R C h' d v) :
    FR C h0 nt ⟨setDst s.E dst d, own', next', s.dfs⟩ (a.put dst v) h' where
  own := ho
  next := hn
  ok := ok
  ext := fr.ext.trans e
  size := by rw [put_size]; exact fr.size
  env := envR_put (fr.env.ext e) (fun t ht => by rw [fr.size]; exact hd t ht) hr
  dfs := by rw [put_defers]; exact fr.dfs.ext e

theorem dins_sound (hcall : CallOK P G T self) (hround : RoundOK P G self) (hmeth : MethOK P T) (cc : CC P G C) {nt : Nat} {s s' : St} {x : DX} (hg : GOK G C h) (hrd : plainD s.dfs = true → r = none) (fr : FR C h0 nt s a h)
    {ops : Array Oper} {o : Oper} {i : Ins} (hc : cins P G nt (dstOf ops) o = some i) (hd : dins T self i s = some (x, s')) {m : Nat} {K : Act → World → Prop} {Q : Exit → Act → World → Prop} (hk : Next1 C h0 nt s' x K Q) :
    if Region.wanted o (yielded ops a.tmps) = true then o.wpIn (Fw r) m P a h.w K Q else (∀ f, o.about P h.w a.eval = some f → (Fw r).fn f) ∧ K (a.put o.dst undef) h.w := by
  obtain ⟨hlt, e1, e2, e3⟩ := cins_inv hc
  unfold dins at hd
  split at hd
  · rename_i hgd
    rw [guard_sound hc fr.env hgd, if_pos rfl]
    cases hcop : cop P G o with
    | none =>
      rw [hcop] at e2
      simp only [Option.getD_none] at e2
      rw [e2] at hd
      simp [dstep, dplain, dpure, dimp, ok3] at hd
    | some op =>
      rw [hcop] at e2
      simp only [Option.getD_some] at e2
      have hopd : ∀ y ∈ o.op.operands.toList, OpdOK C h G s.E a y := fun y _ => opdOK_of hg fr.env y
      split at hd
      · rename_i f hf
        rw [e2] at hf; subst hf
        rcases cop_calls hcop rfl with ⟨_, _, _, _, _, _, e3⟩ | ⟨_, _, _, _, _, _, _, _, e3⟩ | ⟨_, _, _, _, _, _, _, _, _, e3⟩ | ⟨_, _, _, _, e3⟩ | ⟨f0, tys, f', g1, g2, g3⟩ | ⟨_, _, e3⟩
        · cases e3
        · cases e3
        · cases e3
        · cases e3
        · cases g3
          split at hd
          · rename_i g first capt hfn
            split at hd
            · rename_i hpl
              simp only [Option.some.injEq, Prod.mk.injEq] at hd
              obtain ⟨rfl, rfl⟩ := hd
              have hr0 := hrd hpl
              subst hr0
              have hrf := opdOK_of (C := C) (h := h) (G := G) (E := s.E) (a := a) hg fr.env f0 _ g2 _ hfn
              simp only [R] at hrf
              obtain ⟨fs, cs, hv, r1, r2⟩ := hrf
              refine ⟨fun _ _ => trivial, ?_⟩
              have hrun : (o.semAt (Fw none).round a.eval).run P h.w = .ok (.defer { target := .fn (.func g) cs, args := fs ++ #[] }) h.w := by
                rw [show (Fw none).round = none from rfl, Oper.semAt_none]
                simp [execOp, g1, resolve, Deferred.ofValue, hv]
              rw [hrun, Oper.uponIn_defer]
              have fr' : FR C h0 nt ⟨s.E, s.own, s.next, .call g (first ++ capt) :: s.dfs⟩ { a with defers := { target := .fn (.func g) cs, args := fs ++ #[] } :: a.defers } h :=
                ⟨fr.own, fr.next, fr.ok, fr.ext, fr.size, fr.env, ⟨_, _, rfl, ⟨cs, rfl, by simpa using RL.append r1 r2⟩, fr.dfs⟩⟩
              have := hk _ _ (fr'.put (dst := i.dst) (d := .junk) (v := undef) (fun t ht => hlt t (by rw [← e1]; exact ht)) (Ext.refl h) fr.ok fr.own fr.next (by simp [R]))
              rw [e1] at this
              exact this
            · cases hd
          · cases hd
        · cases e3
      · rename_i hnd
        have hcop' : cop P G o = some i.op := by rw [e2]; exact hcop
        split at hd
        · rename_i d own next hst
          simp only [Option.some.injEq, Prod.mk.injEq] at hd
          obtain ⟨rfl, rfl⟩ := hd
          rw [← fr.own, ← fr.next] at hst
          refine dstep_sound hcall hround hmeth cc hg fr.ok hcop' hnd hopd hst m K Q ?_
          intro v h' h1 h2 h3 h4 h5
          have := hk _ _ (fr.put (dst := i.dst) (fun t ht => hlt t (by rw [← e1]; exact ht)) h3 h4 h1 h2 h5)
          rw [e1] at this
          exact this
        · rename_i d own next hst
          simp only [Option.some.injEq, Prod.mk.injEq] at hd
          obtain ⟨rfl, rfl⟩ := hd
          rw [← fr.own, ← fr.next] at hst
          refine dstep_sound hcall hround hmeth cc hg fr.ok hcop' hnd hopd hst m K Q ?_
          intro v h' h1 h2 h3 h4 h5
          exact hk a h' ⟨h1, h2, h4, fr.ext.trans h3, fr.size, fr.env.ext h3, fr.dfs.ext h3⟩ v h5
        · cases hd
  · rename_i hgd
    rw [guard_sound hc fr.env hgd, if_neg (by simp)]
    simp only [Option.some.injEq, Prod.mk.injEq] at hd
    obtain ⟨rfl, rfl⟩ := hd
    refine ⟨fun _ _ => trivial, ?_⟩
    have := hk _ _ (fr.put (dst := i.dst) (d := .tup []) (v := undef) (fun t ht => hlt t (by rw [← e1]; exact ht)) (Ext.refl h) fr.ok fr.own fr.next (by simp only [R]; exact ⟨#[], rfl, RL.nil⟩))
    rw [e1] at this
    exact this
  · cases hd
end
end Gv
