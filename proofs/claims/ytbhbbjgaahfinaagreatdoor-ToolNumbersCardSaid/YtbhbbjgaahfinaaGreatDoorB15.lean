/- Part of the proof of ToolNumbers by an evaluator that is proved sound: B15. No condition of its own. -/
import Derived.Test.YtbhbbjgaahfinaaGreatDoorB14
set_option linter.unusedVariables false
set_option linter.unusedSimpArgs false
/-! Code: sequences, branches, blocks, loops, scopes. -/
namespace Gv
open Go
set_option linter.unusedVariables false

section
variable {F : Fence} {n : Nat} {P : Program}

/-- The rest of a loop: its body, the loop behind it. -/
def LoopWp (F : Fence) (n : Nat) (P : Program) (c : Code) (Q : Exit → Act → World → Prop) (a : Act) (w : World) : Prop :=
  ∀ (b : Frame) (k : List Item) (cs : List Frame), b.roundOf = F.round → F.fn b.fn → F.room (cs.length + 1 + n) →
    ∃ e a' w', Q e a' w' ∧ ArrivesIn (Machine.fenced P F) P (lone (b.atR a (.code c :: .inLoop c :: k)) cs w) b k cs e a' w'

theorem wpIn_of_loopWp {c : Code} {Q : Exit → Act → World → Prop} {a : Act} {w : World} (h : LoopWp F n P c Q a w) : (Code.loop c).wpIn F n P Q a w := by
  intro b k cs hro hb hr
  obtain ⟨e, a', w', hq, harr⟩ := h b k cs hro hb hr
  exact ⟨e, a', w', hq, .of_steps (.one (fenced_calm hb hr rfl) stepR_loop) harr⟩

theorem loopWp_step {c : Code} {Q : Exit → Act → World → Prop} {a : Act} {w : World} (h : c.wpIn F n P (Exit.then (LoopWp F n P c Q) Q) a w) : LoopWp F n P c Q a w := by
  intro b k cs hro hb hr
  obtain ⟨e, a₁, w₁, hq, harr⟩ := h b (.inLoop c :: k) cs hro hb hr
  cases e with
  | normal =>
    obtain ⟨e₂, a₂, w₂, hq₂, harr₂⟩ := hq b k cs hro hb hr
    exact ⟨e₂, a₂, w₂, hq₂, .of_steps (StepsIn.trans harr (.one (fenced_calm hb hr rfl) stepR_inLoop)) harr₂⟩
  | exit id => exact ⟨_, a₁, w₁, hq, .pass (x := .inLoop c) rfl (fun _ _ => .inl (by simp)) harr⟩
  | goto l => exact ⟨_, a₁, w₁, hq, .pass (x := .inLoop c) rfl (fun _ _ => .inl (by simp)) harr⟩
  | ret => exact ⟨_, a₁, w₁, hq, .pass (x := .inLoop c) rfl (fun _ _ => .inl (by simp)) harr⟩
  | panic ch => exact ⟨_, a₁, w₁, hq, .pass (x := .inLoop c) rfl (fun _ _ => .inl (by simp)) harr⟩
  | outgrown => exact ⟨_, a₁, w₁, hq, .pass (x := .inLoop c) rfl (fun _ _ => .inl (by simp)) harr⟩

/-- A scope's code, from somewhere on. -/
def ScopeWp (F : Fence) (n : Nat) (P : Program) (c x : Code) (Q : Exit → Act → World → Prop) (a : Act) (w : World) : Prop :=
  ∀ (b : Frame) (k : List Item) (cs : List Frame), b.roundOf = F.round → F.fn b.fn → F.room (cs.length + 1 + n) →
    ∃ e a' w', Q e a' w' ∧ ArrivesIn (Machine.fenced P F) P (lone (b.atR a (.code x :: .inScope c :: k)) cs w) b k cs e a' w'

section steps
variable {b : Frame} {a : Act} {k : List Item} {cs : List Frame} {w : World} {c : Code}
theorem stepR_scope : step P (lone (b.atR a (.code (.scope c) :: k)) cs w) = .next (lone (b.atR a (.code c :: .inScope c :: k)) cs w) :=
  step_lone_go (by simp [stepG, stepG.exec, Frame.atR])
theorem stepR_inScope : step P (lone (b.atR a (.inScope c :: k)) cs w) = .next (lone (b.atR a k) cs w) :=
  step_lone_go (by simp [stepG, stepG.exec, Frame.atR])
end steps

theorem wpIn_of_scopeWp {c : Code} {Q : Exit → Act → World → Prop} {a : Act} {w : World} (h : ScopeWp F n P c c Q a w) : (Code.scope c).wpIn F n P Q a w := by
  intro b k cs hro hb hr
  obtain ⟨e, a', w', hq, harr⟩ := h b k cs hro hb hr
  exact ⟨e, a', w', hq, .of_steps (.one (fenced_calm hb hr rfl) stepR_scope) harr⟩

/-- As Q; by a goto to a label of the scope: on from there. -/
def inScopeQ (F : Fence) (n : Nat) (P : Program) (c : Code) (Q : Exit → Act → World → Prop) : Exit → Act → World → Prop
  | .goto l, a, w => ∃ rest, findLabel c l = some rest ∧ ScopeWp F n P c rest Q a w
  | e, a, w => Q e a w

theorem scopeWp_step {c x : Code} {Q : Exit → Act → World → Prop} {a : Act} {w : World} (h : x.wpIn F n P (inScopeQ F n P c Q) a w) : ScopeWp F n P c x Q a w := by
  intro b k cs hro hb hr
  obtain ⟨e, a₁, w₁, hq, harr⟩ := h b (.inScope c :: k) cs hro hb hr
  cases e with
  | normal => exact ⟨.normal, a₁, w₁, hq, StepsIn.trans harr (.one (fenced_calm hb hr rfl) stepR_inScope)⟩
  | exit id =>
    have hx : exitTo id (.inScope c :: k) = exitTo id k := by simp [exitTo]
    exact ⟨.exit id, a₁, w₁, hq, fun k' hk => harr.1 k' (by rw [hx]; exact hk), fun hr' hk => harr.2 hr' (by rw [hx]; exact hk)⟩
  | goto l =>
    obtain ⟨rest, hf, hs⟩ := hq
    have hg : gotoIn l (.inScope c :: k) = some (.code rest :: .inScope c :: k) := by simp [gotoIn, hf]
    obtain ⟨e₂, a₂, w₂, hq₂, harr₂⟩ := hs b k cs hro hb hr
    exact ⟨e₂, a₂, w₂, hq₂, .of_steps (harr.1 _ hg) harr₂⟩
  | ret => exact ⟨_, a₁, w₁, hq, harr⟩
  | panic ch => exact ⟨_, a₁, w₁, hq, harr⟩
  | outgrown => exact ⟨_, a₁, w₁, hq, harr⟩
end

section
variable {P : Program} {G : Glob}

theorem clabel_sound {nt l : Nat} : ∀ {c : Code} {ic r : IC}, ccode P G nt c = some ic → clabel l c ic = some r → ∃ rest, findLabel c l = some rest ∧ ccode P G nt rest = some r
  | .seq a b, ic, r, hc, hl => by
    simp only [ccode] at hc
    obtain ⟨a', b', h1, h2, hc⟩ := some2 hc
    simp only [Option.some.injEq] at hc; subst hc
    simp only [clabel] at hl
    cases ha : clabel l a a' with
    | some q =>
      rw [ha] at hl
      simp only [Option.some.injEq] at hl; subst hl
      obtain ⟨rest, h3, h4⟩ := clabel_sound h1 ha
      exact ⟨.seq rest b, by simp [findLabel, h3], by simp [ccode, h4, h2, b2]⟩
    | none =>
      rw [ha] at hl
      obtain ⟨rest, h3, h4⟩ := clabel_sound h2 hl
      have hn : findLabel a l = none := by
        have := clabel_none (l := l) h1 ha
        exact this
      exact ⟨rest, by simp [findLabel, hn, h3], h4⟩
  | .label l', ic, r, hc, hl => by
    simp only [clabel] at hl
    split at hl
    · rename_i h; subst h
      simp only [Option.some.injEq] at hl; subst hl
      exact ⟨.skip, by simp [findLabel], rfl⟩
    · cases hl
  | .skip, ic, r, hc, hl => by simp [clabel] at hl
  | .region _ _ _, ic, r, hc, hl => by simp [clabel] at hl
  | .cond _ _ _, ic, r, hc, hl => by simp [clabel] at hl
  | .block _ _, ic, r, hc, hl => by simp [clabel] at hl
  | .loop _, ic, r, hc, hl => by simp [clabel] at hl
  | .rangeFunc _ _ _ _, ic, r, hc, hl => by simp [clabel] at hl
  | .exit _, ic, r, hc, hl => by simp [clabel] at hl
  | .scope _, ic, r, hc, hl => by simp [clabel] at hl
  | .goto _, ic, r, hc, hl => by simp [clabel] at hl
  | .ret, ic, r, hc, hl => by simp [clabel] at hl
  | .refuse _, ic, r, hc, hl => by simp [clabel] at hl
  where
  clabel_none {nt l : Nat} : ∀ {c : Code} {ic : IC}, ccode P G nt c = some ic → clabel l c ic = none → findLabel c l = none
  | .seq a b, ic, hc, hl => by
    simp only [ccode] at hc
    obtain ⟨a', b', h1, h2, hc⟩ := some2 hc
    simp only [Option.some.injEq] at hc; subst hc
    simp only [clabel] at hl
    cases ha : clabel l a a' with
    | some q => rw [ha] at hl; cases hl
    | none =>
      rw [ha] at hl
      simp [findLabel, clabel_none h1 ha, clabel_none h2 hl]
  | .label l', ic, hc, hl => by
    simp only [clabel] at hl
    split at hl
    · cases hl
    · rename_i h
      have : (l' == l) = false := by simp; exact fun hh => h hh
      simp [findLabel, this]
  | .skip, ic, hc, hl => by simp [findLabel]
  | .region _ _ _, ic, hc, hl => by simp [findLabel]
  | .cond _ _ _, ic, hc, hl => by simp [findLabel]
  | .block _ _, ic, hc, hl => by simp [findLabel]
  | .loop _, ic, hc, hl => by simp [findLabel]
  | .rangeFunc _ _ _ _, ic, hc, hl => by simp [findLabel]
  | .exit _, ic, hc, hl => by simp [findLabel]
  | .scope _, ic, hc, hl => by simp [findLabel]
  | .goto _, ic, hc, hl => by simp [findLabel]
  | .ret, ic, hc, hl => by simp [findLabel]
  | .refuse _, ic, hc, hl => by simp [findLabel]
end

section
variable (P : Program) (G : Glob) (T : Tab) (self : IC → St → Option (DX × St))
def LoopOK : Prop := ∀ ib s x s', self (.loop ib) s = some (x, s') → ∀ nt c, ccode P G nt c = some ib →
  CodeDoes P G nt s x s' (fun Q a w r m => LoopWp (Fw r) m P c Q a w)
def ScopeOK : Prop := ∀ l irest ix s y s', self (.scope l irest ix) s = some (y, s') → ∀ nt c x rest, ccode P G nt x = some ix → findLabel c l = some rest → ccode P G nt rest = some irest →
  CodeDoes P G nt s y s' (fun Q a w r m => ScopeWp (Fw r) m P c x Q a w)
end
structure SelfOK (P : Program) (G : Glob) (sf : IC → St → Option (DX × St)) : Prop where
  code : CodeOK P G sf
  loop : LoopOK P G sf
  scope : ScopeOK P G sf
  plain : PlainOK sf
section
end

section
variable {P : Program} {G : Glob} {T : Tab} {self : IC → St → Option (DX × St)}

theorem CodeDoes.mono {nt : Nat} {s s' : St} {x : DX} {p q : (Exit → Act → World → Prop) → Act → World → Option Nat → Nat → Prop} (h : CodeDoes P G nt s x s' p) (hpq : ∀ Q a w r m, p Q a w r m → q Q a w r m) : CodeDoes P G nt s x s' q :=
  fun r C h0 hh a cc hg hrd fr m Q hk => hpq _ _ _ _ _ (h r C h0 hh a cc hg hrd fr m Q hk)

theorem loop_ok (so : SelfOK P G self) : LoopOK P G (stepC T self) := by
  intro ib s x s' hd nt c hc r C h0 h a cc hg hrd fr m Q hk
  simp only [stepC] at hd
  cases ha : self ib s with
  | none => simp [ha] at hd
  | some p =>
    obtain ⟨y, s1⟩ := p
    have hp := so.plain _ _ _ _ ha
    rw [ha] at hd
    refine loopWp_step (so.code _ _ _ _ ha nt c hc r C h0 h a cc hg hrd fr m _ ?_)
    intro a1 h1 fr1
    cases y with
    | normal =>
      simp only [Left, Exit.then]
      exact so.loop _ _ _ _ hd nt c hc r C h0 h1 a1 cc hg (by rw [hp]; exact hrd) fr1 m Q hk
    | _ =>
      simp only [Option.some.injEq, Prod.mk.injEq] at hd
      obtain ⟨rfl, rfl⟩ := hd
      exact hk a1 h1 fr1

theorem scope_ok (so : SelfOK P G self) : ScopeOK P G (stepC T self) := by
  intro l irest ix s y s' hd nt c x rest hx hf hrest r C h0 h a cc hg hrd fr m Q hk
  simp only [stepC] at hd
  cases ha : self ix s with
  | none => simp [ha] at hd
  | some p =>
    obtain ⟨z, s1⟩ := p
    have hp := so.plain _ _ _ _ ha
    rw [ha] at hd
    refine scopeWp_step (so.code _ _ _ _ ha nt x hx r C h0 h a cc hg hrd fr m _ ?_)
    intro a1 h1 fr1
    cases z with
    | goto l' =>
      simp only at hd
      split at hd
      · rename_i hl; subst hl
        exact ⟨rest, hf, so.scope _ _ _ _ _ _ hd nt c rest rest hrest hf hrest r C h0 h1 a1 cc hg (by rw [hp]; exact hrd) fr1 m Q hk⟩
      · cases hd
    | _ =>
      simp only [Option.some.injEq, Prod.mk.injEq] at hd
      obtain ⟨rfl, rfl⟩ := hd
      exact hk a1 h1 fr1

/-- What is straight. -/
theorem code_ok (so : SelfOK P G self) (hcall : CallOK P G T self) (hround : RoundOK P G self) (hmeth : MethOK P T)
    (hdraw : ∀ nt ops l, cdraw P G nt ops = some l → ∀ id s x s', stepC T self (.draw l) s = some (x, s') → CodeDoes P G nt s x s' (fun Q a w r m => (Code.region id ops true).wpIn (Fw r) m P Q a w))
    (hrange : ∀ nt f ps A B f' A' B', copd G f = some f' → ccode P G nt A = some A' → ccode P G nt B = some B' → ∀ s x s', stepC T self (.rangeF nt f' ps A' B') s = some (x, s') →
      CodeDoes P G nt s x s' (fun Q a w r m => (Code.rangeFunc f ps.toArray A B).wpIn (Fw r) m P Q a w)) : CodeOK P G (stepC T self) := by
  intro ic s x s' hd nt c hc
  cases c with
  | skip =>
    simp only [ccode, Option.some.injEq] at hc; subst hc
    simp only [stepC, Option.some.injEq, Prod.mk.injEq] at hd
    obtain ⟨rfl, rfl⟩ := hd
    exact fun r C h0 h a cc hg hrd fr m Q hk => wpIn_skip (hk a h fr)
  | label l =>
    simp only [ccode, Option.some.injEq] at hc; subst hc
    simp only [stepC, Option.some.injEq, Prod.mk.injEq] at hd
    obtain ⟨rfl, rfl⟩ := hd
    exact fun r C h0 h a cc hg hrd fr m Q hk => wpIn_label (hk a h fr)
  | exit l =>
    simp only [ccode, Option.some.injEq] at hc; subst hc
    simp only [stepC, Option.some.injEq, Prod.mk.injEq] at hd
    obtain ⟨rfl, rfl⟩ := hd
    exact fun r C h0 h a cc hg hrd fr m Q hk => wpIn_exit (hk a h fr)
  | goto l =>
    simp only [ccode, Option.some.injEq] at hc; subst hc
    simp only [stepC, Option.some.injEq, Prod.mk.injEq] at hd
    obtain ⟨rfl, rfl⟩ := hd
    exact fun r C h0 h a cc hg hrd fr m Q hk => wpIn_goto (hk a h fr)
  | ret =>
    simp only [ccode, Option.some.injEq] at hc; subst hc
    simp only [stepC, Option.some.injEq, Prod.mk.injEq] at hd
    obtain ⟨rfl, rfl⟩ := hd
    exact fun r C h0 h a cc hg hrd fr m Q hk => wpIn_ret (hk a h fr)
  | refuse w =>
    simp only [ccode, Option.some.injEq] at hc; subst hc
    simp [stepC] at hd
  | region id ops d =>
    cases d with
    | false =>
      simp only [ccode, Option.map_eq_some_iff] at hc
      obtain ⟨is, his, rfl⟩ := hc
      simp only [stepC] at hd
      intro r C h0 h a cc hg hrd fr m Q hk
      refine wpIn_region ?_
      have := dops_sound hcall hround hmeth cc hg (m := m) (Q := Q) (r := r) ops.toList 0 is (by simp) his s s' x h a hrd fr hd hk
      simpa [List.range_eq_range'] using this
    | true =>
      simp only [ccode, Option.map_eq_some_iff] at hc
      obtain ⟨l, hl, rfl⟩ := hc
      exact hdraw nt ops l hl id s x s' hd
  | seq A B =>
    simp only [ccode] at hc
    obtain ⟨A', B', h1, h2, hc⟩ := some2 hc
    simp only [Option.some.injEq] at hc; subst hc
    simp only [stepC] at hd
    cases ha : self A' s with
    | none => simp [ha] at hd
    | some p =>
      obtain ⟨y, s1⟩ := p
      have hp := so.plain _ _ _ _ ha
      rw [ha] at hd
      intro r C h0 h a cc hg hrd fr m Q hk
      refine wpIn_seq (so.code _ _ _ _ ha nt A h1 r C h0 h a cc hg hrd fr m _ ?_)
      intro a1 hh1 fr1
      cases y with
      | normal => exact so.code _ _ _ _ hd nt B h2 r C h0 hh1 a1 cc hg (by rw [hp]; exact hrd) fr1 m Q hk
      | _ =>
        simp only [Option.some.injEq, Prod.mk.injEq] at hd
        obtain ⟨rfl, rfl⟩ := hd
        exact hk a1 hh1 fr1
  | cond c A B =>
    simp only [ccode] at hc
    obtain ⟨c', hcc, hc⟩ := some1 hc
    obtain ⟨A', B', h1, h2, hc⟩ := some2 hc
    simp only [Option.some.injEq] at hc; subst hc
    simp only [stepC] at hd
    intro r C h0 h a cc hg hrd fr m Q hk
    have of := opdOK_of (C := C) (h := h) (a := a) (hg.ext fr.ext) fr.env c c' hcc
    split at hd
    · rename_i hv
      have := of _ hv
      simp only [R] at this
      exact wpIn_cond_true this (so.code _ _ _ _ hd nt A h1 r C h0 h a cc hg hrd fr m Q hk)
    · rename_i hv
      have := of _ hv
      simp only [R] at this
      exact wpIn_cond_false this (so.code _ _ _ _ hd nt B h2 r C h0 h a cc hg hrd fr m Q hk)
    · cases hd
  | block id b =>
    simp only [ccode, Option.map_eq_some_iff] at hc
    obtain ⟨b', hb, rfl⟩ := hc
    simp only [stepC] at hd
    cases ha : self b' s with
    | none => simp [ha] at hd
    | some p =>
      obtain ⟨y, s1⟩ := p
      rw [ha] at hd
      intro r C h0 h a cc hg hrd fr m Q hk
      refine wpIn_block (so.code _ _ _ _ ha nt b hb r C h0 h a cc hg hrd fr m _ ?_)
      intro a1 hh1 fr1
      cases y with
      | exit id' =>
        simp only at hd
        simp only [Left, Exit.inBlock]
        split at hd
        · rename_i hid
          simp only [Option.some.injEq, Prod.mk.injEq] at hd
          obtain ⟨rfl, rfl⟩ := hd
          rw [if_pos hid]; exact hk a1 hh1 fr1
        · rename_i hid
          simp only [Option.some.injEq, Prod.mk.injEq] at hd
          obtain ⟨rfl, rfl⟩ := hd
          rw [if_neg hid]; exact hk a1 hh1 fr1
      | _ =>
        simp only [Option.some.injEq, Prod.mk.injEq] at hd
        obtain ⟨rfl, rfl⟩ := hd
        exact hk a1 hh1 fr1
  | loop b =>
    simp only [ccode, Option.map_eq_some_iff] at hc
    obtain ⟨b', hb, rfl⟩ := hc
    exact (loop_ok (T := T) so b' s x s' hd nt b hb).mono fun Q a w r m h => wpIn_of_loopWp h
  | scope b =>
    simp only [ccode] at hc
    obtain ⟨ib, hb, hc⟩ := some1 hc
    split at hc
    · rename_i l _ _
      simp only [Option.map_eq_some_iff] at hc
      obtain ⟨irest, hl, rfl⟩ := hc
      obtain ⟨rest, hf, hr⟩ := clabel_sound hb hl
      exact (scope_ok (T := T) so l irest ib s x s' hd nt b b rest hb hf hr).mono fun Q a w r m h => wpIn_of_scopeWp h
    · cases hc
  | rangeFunc f ps A B =>
    simp only [ccode] at hc
    obtain ⟨f', hf, hc⟩ := some1 hc
    obtain ⟨A', B', h1, h2, hc⟩ := some2 hc
    simp only [Option.some.injEq] at hc; subst hc
    have := hrange nt f ps.toList A B f' A' B' hf h1 h2 s x s' hd
    simpa using this
end
end Gv
