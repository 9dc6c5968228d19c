/- Part of the proof of ToolNumbers by an evaluator that is proved sound: B6. No condition of its own. -/
import Derived.Test.YtbhbbjgaahfinaaGreatDoorB5
set_option linter.unusedVariables false
set_option linter.unusedSimpArgs false
/-! An operation that leaves the state as it is: sound. -/
namespace Gv
open Go
set_option linter.unusedVariables false

section
variable {C : Cx} {h : HS} {P : Program} {G : Glob} {E : Tr D} {a : Act}

theorem dnilck_sound (ok : OK C h) {d r : D} {u : Value} (hr : R C h d u) (hd : dnilck h.own d = some r) : r = d ∧
    ((∃ ad, u = .pointer (some ad)) ∨ ∃ f fs cs, u = .func (.func f) fs cs) := by
  unfold dnilck at hd
  split at hd
  · rename_i id i off
    obtain ⟨sx, hl, hd⟩ := some1 hd
    simp only [Option.some.injEq] at hd
    have := live_get hl
    simp only [R] at hr
    exact ⟨hd.symm, .inl ⟨_, hr.2.2 _ _ _ this.choose_spec⟩⟩
  · rename_i cs
    simp only [Option.some.injEq] at hd
    simp only [R] at hr
    obtain ⟨b, off, cs, rfl, _⟩ := hr
    exact ⟨hd.symm, .inl ⟨_, rfl⟩⟩
  · rename_i f x y
    simp only [Option.some.injEq] at hd
    simp only [R] at hr
    obtain ⟨fs, cs, rfl, _⟩ := hr
    exact ⟨hd.symm, .inr ⟨_, _, _, rfl⟩⟩
  · cases hd

theorem bin_case (ok : OK C h) {op : BinOp} {t : TypeId} {x y : Operand} {k : BK} (hk : cbin P t y op = some k) {x' y' : Opd} (hx : copd G x = some x') (hy : copd G y = some y')
    (ox : OpdOK C h G E a x) (oy : OpdOK C h G E a y) {d : D} (hd : dpure h.own E (.bin op k x' y') = some d) : Pure1 C P h (do eqGuard op t x y (a.eval x) (a.eval y); binOp op t (a.eval x) (a.eval y)) d := by
  simp only [dpure, b2] at hd
  cases h1 : ev E x' with
  | none => simp [h1] at hd
  | some dx =>
  cases h2 : ev E y' with
  | none => simp [h1, h2] at hd
  | some dy =>
  simp only [h1, h2] at hd
  have rx := ox _ hx _ h1
  have ry := oy _ hy _ h2
  rcases cbin_cases hk with rfl | rfl | ⟨rfl, hu⟩ | ⟨rfl, v, rfl, hn⟩ | ⟨e, n, rfl, hu, hn⟩ | ⟨ks, rfl, e1, e2, e3, e4⟩
  · exact bin_sc rx ry hd
  · exact bin_str rx ry hd
  · exact bin_bl hu rx ry hd
  · simp only [dbinP] at hd
    split at hd
    · rename_i hf
      have hv : nilV dy = v := by
        simp only [copd, Option.map_eq_some_iff] at hy
        obtain ⟨d', hd', rfl⟩ := hy
        simp only [ev, Option.some.injEq] at h2
        subst h2
        cases hn <;> (simp only [ofV, ofV1, Option.some.injEq] at hd'; subst hd'; rfl)
      rw [hv] at hf
      exact bin_nily ok hn rx hf hd
    · cases hd
  · exact bin_ptr hu hn rx ry hd
  · exact bin_deep e1 e2 e3 e4 rx ry hd

theorem conv_case (ok : OK C h) {src dst : TypeId} {k : CK} (hk : cconv P src dst = some k) {d r : D} {u : Value} (hr : R C h d u)
    (hd : dconvP h.own k d = some r) : Pure1 C P h (convert src dst u) r := by
  unfold cconv at hk
  split at hk
  · rename_i h1 h2
    simp only [Option.some.injEq] at hk; subst hk
    simp only [dconvP] at hd
    cases d with
    | str s =>
      simp only [Option.some.injEq] at hd; subst hd
      have hr' := hr
      simp only [R] at hr'
      obtain ⟨b, rfl, _⟩ := hr'
      exact ⟨_, by simp [convert, run_underlying h1, run_underlying h2], hr⟩
    | _ => cases hd
  · cases hk
  · rename_i e h1 h2
    split at hk
    · rename_i h3
      simp only [Option.some.injEq] at hk; subst hk
      exact conv_bytes ok h1 h3 h2 hr hd
    · cases hk
  · rename_i k0 k1 h1 h2
    simp only [Option.some.injEq] at hk; subst hk
    exact conv_int h1 (by simp) h2 hr hd
  · rename_i t h1 h2
    split at hk
    · rename_i n hn
      simp only [Option.some.injEq] at hk; subst hk
      exact conv_ptr ok hn (.inl ⟨h1, h2⟩) hr hd
    · cases hk
  · rename_i t h1 h2
    split at hk
    · rename_i n hn
      simp only [Option.some.injEq] at hk; subst hk
      exact conv_ptr ok hn (.inr ⟨h1, h2⟩) hr hd
    · cases hk
  · cases hk

theorem slice_case (ok : OK C h) {t : TypeId} {k : SK} (hk : SKOK P t k) {x : D} {lo hi mx : Option D} {ux : Value} {ul uh um : Option Value} (hx : R C h x ux) (h1 : RO C h lo ul) (h2 : RO C h hi uh) (h3 : RO C h mx um)
    (hgiven : mx.isSome = true → hi.isSome = true) {d : D} (hd : dsliceP h.own k x lo hi mx = some d) :
    Yields C P h (Instr.sliceAt t ux ul uh um) d h.own h.next := by
  have main : (∀ n z id i o, k = .arr n z → x = .ptr id i o → False) → (dslice h.own k x lo hi mx).map (·.1) = some d → Yields C P h (Instr.sliceAt t ux ul uh um) d h.own h.next := by
    intro hne hq
    simp only [Option.map_eq_some_iff] at hq
    obtain ⟨⟨d', own'⟩, hq, rfl⟩ := hq
    have hy := dslice_sound ok hk hx h1 h2 h3 hgiven hq
    have : own' = h.own := by
      clear hy
      unfold dslice at hq
      split at hq
      · split at hq
        · split at hq
          · split at hq
            · simp only [Option.some.injEq, Prod.mk.injEq] at hq; exact hq.2.symm
            · cases hq
          · cases hq
        · cases hq
      · split at hq
        · split at hq
          · split at hq
            · split at hq <;> (simp only [Option.some.injEq, Prod.mk.injEq] at hq; exact hq.2.symm)
            · cases hq
          · cases hq
        · split at hq
          · split at hq
            · split at hq
              · split at hq <;> (simp only [Option.some.injEq, Prod.mk.injEq] at hq; exact hq.2.symm)
              · split at hq
                · split at hq <;> (simp only [Option.some.injEq, Prod.mk.injEq] at hq; exact hq.2.symm)
                · split at hq <;> (simp only [Option.some.injEq, Prod.mk.injEq] at hq; exact hq.2.symm)
            · cases hq
          · cases hq
        · cases hq
      · split at hq
        · split at hq
          · split at hq
            · exact absurd trivial (fun _ => hne _ _ _ _ _ rfl rfl)
            · split at hq
              · simp only [Option.some.injEq, Prod.mk.injEq] at hq; exact hq.2.symm
              · cases hq
            · cases hq
          · cases hq
        · cases hq
    rw [← this]; exact hy
  cases k with
  | arr n z =>
    cases x with
    | ptr id i o => cases hd
    | _ => exact main (by intros; simp_all) hd
  | _ => exact main (by intros; simp_all) hd

end
end Gv
