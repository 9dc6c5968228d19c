/- Part of the proof of ToolNumbers by an evaluator that is proved sound: A4. No condition of its own. -/
import Derived.Laws.Entries
import Derived.Laws.StructEq
import Derived.Test.YtbhbbjgaahfinaaGreatDoorA3
set_option linter.unusedVariables false
set_option linter.unusedSimpArgs false
/-! Operators: what the machine does. -/
namespace Gv
open Go
set_option linter.unusedVariables false

section
variable {C : Cx} {h : HS} {P : Program}

/-- A comparison with nil: the type, and the nil that stands there. -/
inductive NilAt (P : Program) (t : TypeId) : Value → Prop
  | slice {e} : P.underlying t = some (.slice e) → NilAt P t (.slice none 0 0)
  | pointer {e} : P.underlying t = some (.pointer e) → NilAt P t (.pointer none)
  | map {k e} : P.underlying t = some (.map k e) → NilAt P t (.map none)
  | func {a b c} : P.underlying t = some (.func a b c) → NilAt P t .nilFunc
  | iface {ms} : P.underlying t = some (.interface ms) → NilAt P t .nilIface

/-- How a binary operation may be done abstractly. -/
def BKOK (P : Program) (t : TypeId) (x y : Operand) : BK → Prop
  | .sc => True
  | .bl => P.underlying t = some .bool
  | .str => True
  | .nily => ∃ v, y = .const v ∧ NilAt P t v
  | .nilx => False
  | .deep _ => False
  | .ptr => False

def NilFit (v u : Value) : Prop :=
  match v with | .slice .. => (∃ a n c, u = .slice a n c) | .pointer _ => ∃ a, u = .pointer a | .map _ => ∃ r, u = .map r | .nilFunc => u = .nilFunc ∨ ∃ f x y, u = .func f x y | .nilIface => u = .nilIface ∨ ∃ t x, u = .iface t x | _ => False

theorem equalIn_nil {t : TypeId} {v : Value} (ht : NilAt P t v) {u : Value} {b : Bool}
    (h1 : b = true → u = .pointer none ∨ u = .nilIface ∨ u = .nilFunc ∨ u = .map none ∨ u = .slice none 0 0)
    (h2 : b = false → (∃ a, u = .pointer (some a)) ∨ (∃ t x, u = .iface t x) ∨ (∃ f x y, u = .func f x y) ∨ (∃ r, u = .map (some r)) ∨ (∃ a n c, u = .slice (some a) n c)) (w : World)
    (hfit : NilFit v u) (d : Nat) :
    (Op.equalIn (d + 1) t u v).run P w = .ok b w := by
  cases ht with
  | slice hu =>
    obtain ⟨a, n, c, rfl⟩ := hfit
    cases b with
    | true =>
      have := h1 rfl
      simp only [Value.slice.injEq, reduceCtorEq, false_or] at this
      obtain ⟨rfl, rfl, rfl⟩ := this
      simp [Op.equalIn, run_underlying hu]
    | false =>
      have := h2 rfl
      simp only [Value.slice.injEq, reduceCtorEq, exists_false, false_or] at this
      obtain ⟨a', n', c', rfl, _⟩ := this
      simp [Op.equalIn, run_underlying hu]
  | pointer hu =>
    obtain ⟨a, rfl⟩ := hfit
    cases b with
    | true =>
      have := h1 rfl
      simp only [Value.pointer.injEq, reduceCtorEq, false_or, or_false] at this
      subst this
      simp [Op.equalIn, run_underlying hu]
    | false =>
      have := h2 rfl
      simp only [Value.pointer.injEq, reduceCtorEq, exists_false, false_or, or_false] at this
      obtain ⟨a', rfl⟩ := this
      simp [Op.equalIn, run_underlying hu]
  | map hu =>
    obtain ⟨a, rfl⟩ := hfit
    cases b with
    | true =>
      have := h1 rfl
      simp only [Value.map.injEq, reduceCtorEq, false_or, or_false] at this
      subst this
      simp [Op.equalIn, run_underlying hu]
    | false =>
      have := h2 rfl
      simp only [Value.map.injEq, reduceCtorEq, exists_false, false_or, or_false] at this
      obtain ⟨a', rfl⟩ := this
      simp [Op.equalIn, run_underlying hu]
  | func hu =>
    cases b with
    | true =>
      rcases hfit with rfl | ⟨f, x, y, rfl⟩
      · simp [Op.equalIn, run_underlying hu]
      · simp at h1
    | false =>
      rcases hfit with rfl | ⟨f, x, y, rfl⟩
      · simp at h2
      · simp [Op.equalIn, run_underlying hu]
  | iface hu =>
    cases b with
    | true =>
      rcases hfit with rfl | ⟨f, x, rfl⟩
      · simp [Op.equalIn, run_underlying hu]
      · simp at h1
    | false =>
      rcases hfit with rfl | ⟨f, x, rfl⟩
      · simp at h2
      · simp [Op.equalIn, run_underlying hu]

/-- An operand's abstract value is of the kind that its type says: of those that are compared with nil. -/
def nilFit (v : Value) (d : D) : Bool :=
  match v, d with
  | .slice .., .sl .. | .slice .., .own .. => true
  | .pointer _, .ptr .. | .pointer _, .ep .. | .pointer _, .v (.pointer _) => true
  | .map _, .map _ | .map _, .v (.map _) => true
  | .nilFunc, .fn .. | .nilFunc, .v .nilFunc => true
  | .nilIface, .iface .. | .nilIface, .v .nilIface => true
  | _, _ => false

theorem nilFit_sound (ok : OK C h) {d : D} {u v : Value} (hr : R C h d u) (hf : nilFit v d = true) {b : Bool} (hn : isNilD h.own d = some b) :
    NilFit v u := by
  cases d with
  | v x =>
    simp only [R] at hr
    subst hr
    cases v <;> simp [nilFit] at hf <;> cases u <;> simp at hf <;> simp [NilFit]
  | sl hd xs =>
    cases v <;> simp [nilFit] at hf
    simp only [R] at hr
    rcases hr with ⟨rfl, _⟩ | ⟨_, b', off, cap, size, cs, rfl, _⟩ <;> simp [NilFit]
  | own id off n cap =>
    cases v <;> simp [nilFit] at hf
    simp only [isNilD, Option.map_eq_some_iff] at hn
    obtain ⟨⟨s, xs⟩, hl, rfl⟩ := hn
    simp only [R] at hr
    obtain ⟨c', cs, e, f, rfl, _⟩ := hr.2.2.2 _ _ _ (live_get hl).choose_spec
    simp [NilFit]
  | ptr id i off =>
    cases v <;> simp [nilFit] at hf
    simp only [isNilD, Option.map_eq_some_iff] at hn
    obtain ⟨⟨s, xs⟩, hl, rfl⟩ := hn
    simp only [R] at hr
    have := hr.2.2 _ _ _ (live_get hl).choose_spec
    subst this; simp [NilFit]
  | ep cs =>
    cases v <;> simp [nilFit] at hf
    simp only [R] at hr
    obtain ⟨b, off, vs, rfl, _⟩ := hr
    simp [NilFit]
  | iface t d =>
    cases v <;> simp [nilFit] at hf
    simp only [R] at hr
    obtain ⟨x, rfl, _⟩ := hr
    simp [NilFit]
  | fn f a b =>
    cases v <;> simp [nilFit] at hf
    simp only [R] at hr
    obtain ⟨x, y, rfl, _⟩ := hr
    simp [NilFit]
  | map id =>
    cases v <;> simp [nilFit] at hf
    simp only [isNilD] at hn
    split at hn
    · rename_i es ho
      simp only [R] at hr
      have := hr.2.2 _ ho
      subst this; simp [NilFit]
    · cases hn
  | _ => cases v <;> simp [nilFit] at hf

theorem eqGuard_const {op : BinOp} {t : TypeId} {x : Operand} {c v u : Value} (hv : v = .slice none 0 0 ∨ v = .pointer none ∨ v = .map none ∨ v = .nilFunc ∨ v = .nilIface) : eqGuard op t x (.const c) u v = pure () := by
  rcases hv with rfl | rfl | rfl | rfl | rfl <;> cases op <;> cases u <;> first | rfl | (simp [eqGuard]; done) | (cases x <;> rfl)

theorem bin_nily (ok : OK C h) {op : BinOp} {t : TypeId} {x : Operand} {v : Value} (ht : NilAt P t v) {dx dy d : D} {ux : Value} (hx : R C h dx ux) (hf : nilFit v dx = true) (hd : dbin h.own op .nily dx dy = some d) :
    Pure1 C P h (do eqGuard op t x (.const v) ux v; binOp op t ux v) d := by
  have hv : v = .slice none 0 0 ∨ v = .pointer none ∨ v = .map none ∨ v = .nilFunc ∨ v = .nilIface := by cases ht <;> simp
  rw [eqGuard_const hv]
  simp only [dbin] at hd
  have hb : ∃ b, isNilD h.own dx = some b ∧ ((op = .eql ∧ d = .v (.bool b)) ∨ (op = .neq ∧ d = .v (.bool !b))) := by
    cases op <;> simp only [Option.map_eq_some_iff, reduceCtorEq] at hd
    · obtain ⟨b, h1, h2⟩ := hd; exact ⟨b, h1, .inl ⟨rfl, h2.symm⟩⟩
    · obtain ⟨b, h1, h2⟩ := hd; exact ⟨b, h1, .inr ⟨rfl, h2.symm⟩⟩
  obtain ⟨b, hn, hop⟩ := hb
  obtain ⟨h1, h2⟩ := isNilD_sound ok hx hn
  have hfit := nilFit_sound ok hx hf hn
  have heq := equalIn_nil (P := P) ht h1 h2 h.w hfit 9999
  have hbin : ∀ o : BinOp, (o = .eql ∨ o = .neq) → (binOp o t ux v).run P h.w = .ok (.bool (if o = .eql then b else !b)) h.w := by
    intro o ho
    have hnotint : ∀ k a k' b, ¬ (ux = .int k a ∧ v = .int k' b) := by
      rintro k a k' b ⟨_, rfl⟩; cases ht
    rcases ho with rfl | rfl
    · cases ht <;> cases ux <;> first
        | (simp [NilFit] at hfit; done)
        | (simp only [binOp, Op.equal, Op.maxDepth, Sem.run_bind, heq, Result.andThen_ok, Sem.run_pure]; simp; done)
    · cases ht <;> cases ux <;> first
        | (simp [NilFit] at hfit; done)
        | (simp only [binOp, Op.equal, Op.maxDepth, Sem.run_bind, heq, Result.andThen_ok, Sem.run_pure]; simp; done)
  rcases hop with ⟨rfl, rfl⟩ | ⟨rfl, rfl⟩
  · refine ⟨.bool b, ?_, by simp [R]⟩
    have := hbin .eql (.inl rfl)
    simpa using this
  · refine ⟨.bool !b, ?_, by simp [R]⟩
    have := hbin .neq (.inr rfl)
    simpa using this

theorem bin_sc {op : BinOp} {t : TypeId} {x y : Operand} {dx dy d : D} {ux uy : Value} (hx : R C h dx ux) (hy : R C h dy uy) (hd : dbin h.own op .sc dx dy = some d) :
    Pure1 C P h (do eqGuard op t x y ux uy; binOp op t ux uy) d := by
  simp only [dbin] at hd
  split at hd
  · rename_i k a k' b
    simp only [R] at hx hy
    subst hx; subst hy
    rw [eqGuard_at_int]
    split at hd
    · rename_i hs
      simp only [Option.map_eq_some_iff] at hd
      obtain ⟨v, hv, rfl⟩ := hd
      refine ⟨v, ?_, by simp [R]⟩
      have hb : ¬ b < 0 := by
        intro hb
        simp [dshift, hb] at hv
      simp only [dshift, if_neg hb] at hv
      cases op <;> first
        | (simp [isShift] at hs; done)
        | (simp only [Option.some.injEq] at hv; subst hv; simp only [binOp, pure_bind, Op.shift, if_neg hb]; rfl)
    · rename_i hs
      split at hd
      · rename_i hk
        subst hk
        simp only [Option.map_eq_some_iff] at hd
        obtain ⟨v, hv, rfl⟩ := hd
        refine ⟨v, ?_, by simp [R]⟩
        cases op <;> first
          | (exact absurd rfl hs; done)
          | (simp only [dbinInt, Option.some.injEq] at hv; subst hv; simp only [binOp, pure_bind]; rw [if_neg (fun hh => hh rfl)]; rfl)
          | (simp only [dbinInt] at hv
             split at hv
             · cases hv
             · rename_i h0
               simp only [Option.some.injEq] at hv; subst hv
               simp only [binOp, pure_bind]; rw [if_neg (fun hh => hh rfl)]; simp only [Op.intDiv]; rw [if_neg h0]; rfl)
      · cases hd
  · cases hd

theorem bin_bl {op : BinOp} {t : TypeId} {x y : Operand} (ht : P.underlying t = some .bool) {dx dy d : D} {ux uy : Value} (hx : R C h dx ux) (hy : R C h dy uy) (hd : dbin h.own op .bl dx dy = some d) :
    Pure1 C P h (do eqGuard op t x y ux uy; binOp op t ux uy) d := by
  simp only [dbin] at hd
  split at hd
  · rename_i a b
    simp only [R] at hx hy
    subst hx; subst hy
    rw [eqGuard_at_bool]
    cases op <;> simp only [Option.some.injEq, reduceCtorEq] at hd
    all_goals
      have heq : ∀ d, (Op.equalIn (d + 1) t (.bool a) (.bool b)).run P h.w = .ok (a == b) h.w := fun d => by simp [Op.equalIn, run_underlying ht]
      have heq' := heq 9999
      subst hd
      refine ⟨_, ?_, (by simp only [R]; rfl)⟩
      simp only [binOp, Op.equal, Op.maxDepth, pure_bind, Sem.run_bind, heq', Result.andThen_ok, Sem.run_pure]
  · cases hd

theorem bin_str {op : BinOp} {t : TypeId} {x y : Operand} {dx dy d : D} {ux uy : Value} (hx : R C h dx ux) (hy : R C h dy uy) (hd : dbin h.own op .str dx dy = some d) :
    Pure1 C P h (do eqGuard op t x y ux uy; binOp op t ux uy) d := by
  simp only [dbin] at hd
  split at hd
  · rename_i a b
    simp only [R] at hx hy
    obtain ⟨sa, rfl, rfl, ha⟩ := hx
    obtain ⟨sb, rfl, rfl, hb⟩ := hy
    rw [eqGuard_at_string]
    cases op <;> simp only [Option.some.injEq, reduceCtorEq] at hd
    · split at hd
      · rename_i hl
        simp only [Option.some.injEq] at hd
        subst hd
        simp only [List.length_map, Array.length_toList] at hl
        have hmx : ¬ (((sa.size + sb.size : Nat) : Int) > IntKind.i64.max) := by
          have : IntKind.i64.max = 2 ^ 63 - 1 := rfl
          have h1 : sa.size = sa.data.size := rfl
          have h2 : sb.size = sb.data.size := rfl
          rw [this, h1, h2]
          have h3 : sa.data.size + sb.data.size ≤ 2 ^ 47 := hl
          omega
        refine ⟨.string (sa ++ sb), ?_, ?_⟩
        · simp only [binOp, Op.stringOp, pure_bind]
          rw [if_neg hmx]; rfl
        · simp only [R]
          refine ⟨_, rfl, by simp [ByteArray.data_append], ?_⟩
          have h3 : sa.data.size + sb.data.size ≤ 2 ^ 47 := hl
          have h4 : ((sa ++ sb).data.toList.map UInt8.toNat).length = sa.data.size + sb.data.size := by simp [ByteArray.data_append]
          simp only [List.map_append, List.length_append, List.length_map, Array.length_toList]
          exact h3
      · cases hd
    all_goals
      subst hd
      refine ⟨_, ?_, (by simp only [R]; rfl)⟩
      simp only [binOp, Op.stringOp, pure_bind, bytesLess_eq, bytes_inj]
      rfl
  · cases hd
end
end Gv
/-! Operators on structs; unary operators; conversions; interfaces; copy; max, min. -/
namespace Gv
open Go
set_option linter.unusedVariables false

section
variable {C : Cx} {h : HS} {P : Program}

/-- Fields one behind the other, each of one cell, of types whose values are compared at once. -/
def plainFields (P : Program) : Nat → List Field → Option (List FK)
  | _, [] => some []
  | k, f :: fs =>
    if f.offset = k ∧ f.name ≠ "_" then
      match plainFields P (k + 1) fs, P.underlying f.type with
      | some ks, some (.int _) => some (.int :: ks)
      | some ks, some .bool => some (.bool :: ks)
      | some ks, some .string => some (.str :: ks)
      | _, _ => none
    else none

theorem isAgg_plain {t : TypeId} {d : TypeDesc} (hu : P.underlying t = some d) (hd : (match d with | .struct _ | .array _ _ => true | _ => false) = false) (w : World) : (isAgg t).run P w = .ok false w := by
  unfold isAgg
  simp only [Sem.run_bind, run_underlying hu, Result.andThen_ok]
  cases d <;> first | rfl | (simp at hd)

theorem eqFields_sound : ∀ (fs : List Field) (k : Nat) (ks : List FK) (xs ys : List D) (cx cy : Array Value) (w : World), RL C h true xs (cx.toList.drop k) → RL C h true ys (cy.toList.drop k) → plainFields P k fs = some ks →
    ∀ b, dbin.deepEq ks xs ys = some b → (Op.eqFields 9999 cx cy fs).run P w = .ok b w
  | [], k, ks, xs, ys, cx, cy, w, hx, hy, hp, b, hb => by
    simp only [plainFields, Option.some.injEq] at hp
    subst hp
    unfold dbin.deepEq at hb
    split at hb <;> simp_all
    simp [Op.eqFields, ← hb]
  | f :: fs, k, ks, xs, ys, cx, cy, w, hx, hy, hp, b, hb => by
    simp only [plainFields] at hp
    split at hp
    · rename_i hc
      obtain ⟨hoff, hname⟩ := hc
      -- heads
      have heads : ∀ {x y : D} {xs' ys' : List D}, xs = x :: xs' → ys = y :: ys' → ∃ u v, R C h x u ∧ R C h y v ∧ cx[k]? = some u ∧ cy[k]? = some v ∧ RL C h true xs' (cx.toList.drop (k + 1)) ∧ RL C h true ys' (cy.toList.drop (k + 1)) := by
        rintro x y xs' ys' rfl rfl
        obtain ⟨u, rest, hu1, hu2, hu3, hu4⟩ := hx.cons_inv
        obtain ⟨v, rest', hv1, hv2, hv3, hv4⟩ := hy.cons_inv
        have hcx : cx[k]? = some u := by
          have : (cx.toList.drop k)[0]? = some u := by rw [hu1]; rfl
          simpa using this
        have hcy : cy[k]? = some v := by
          have : (cy.toList.drop k)[0]? = some v := by rw [hv1]; rfl
          simpa using this
        have hrx : rest = cx.toList.drop (k + 1) := by
          have := congrArg (List.drop 1) hu1
          simpa using this.symm
        have hry : rest' = cy.toList.drop (k + 1) := by
          have := congrArg (List.drop 1) hv1
          simpa using this.symm
        exact ⟨u, v, hu3, hv3, hcx, hcy, hrx ▸ hu4, hry ▸ hv4⟩
      have fin : ∀ {u v : Value} (hag : ∀ w, (isAgg f.type).run P w = .ok false w) (hcx : cx[k]? = some u) (hcy : cy[k]? = some v) (c : Bool), (Op.equalIn 9999 f.type u v).run P w = .ok c w →
          (c = true → (Op.eqFields 9999 cx cy fs).run P w = .ok b w) → (c = false → b = false) → (Op.eqFields 9999 cx cy (f :: fs)).run P w = .ok b w := by
        intro u v hag hcx hcy c hc h1 h2
        have hpx : ∀ w, (part f.type cx f.offset).run P w = .ok u w := fun w => by simp [part, hag, hoff, hcx]
        have hpy : ∀ w, (part f.type cy f.offset).run P w = .ok v w := fun w => by simp [part, hag, hoff, hcy]
        simp only [Op.eqFields, Sem.run_bind, hname, ne_eq, not_false_eq_true, if_true, hpx, hpy, Result.andThen_ok, hc]
        cases c
        · simp [h2 rfl]
        · simpa using h1 rfl
      split at hp
      · rename_i ks' kk hks hty
        simp only [Option.some.injEq] at hp
        subst hp
        unfold dbin.deepEq at hb
        split at hb <;> first
          | (rename_i heq; cases heq; done)
          | (cases hb; done)
          | (rename_i ks2 k1 a xs' k2 b' ys' heq
             simp only [List.cons.injEq, true_and] at heq
             subst heq
             obtain ⟨u, v, q1, q2, q3, q4, q5, q6⟩ := heads rfl rfl
             simp only [R] at q1 q2
             subst q1; subst q2
             split at hb
             · rename_i hkk
               subst hkk
               refine fin (isAgg_plain hty rfl) q3 q4 (a == b') (run_equalIn_int w 9998 f.type k1 kk a b' hty) (fun hc => ?_) (fun hc => ?_)
               · rw [if_pos hc] at hb
                 exact eqFields_sound fs (k + 1) _ xs' ys' cx cy w q5 q6 hks b hb
               · rw [if_neg (by rw [hc]; simp)] at hb
                 cases hb; rfl
             · cases hb)
      · rename_i ks' hks hty
        simp only [Option.some.injEq] at hp
        subst hp
        unfold dbin.deepEq at hb
        split at hb <;> first
          | (rename_i heq; cases heq; done)
          | (cases hb; done)
          | (rename_i ks2 a xs' b' ys' heq
             simp only [List.cons.injEq, true_and] at heq
             subst heq
             obtain ⟨u, v, q1, q2, q3, q4, q5, q6⟩ := heads rfl rfl
             simp only [R] at q1 q2
             subst q1; subst q2
             refine fin (isAgg_plain hty rfl) q3 q4 (a == b') (run_equalIn_bool' w 9998 f.type a b' hty) (fun hc => ?_) (fun hc => ?_)
             · rw [if_pos hc] at hb
               exact eqFields_sound fs (k + 1) _ xs' ys' cx cy w q5 q6 hks b hb
             · rw [if_neg (by rw [hc]; simp)] at hb
               cases hb; rfl)
      · rename_i ks' hks hty
        simp only [Option.some.injEq] at hp
        subst hp
        unfold dbin.deepEq at hb
        split at hb <;> first
          | (rename_i heq; cases heq; done)
          | (cases hb; done)
          | (rename_i ks2 a xs' b' ys' heq
             simp only [List.cons.injEq, true_and] at heq
             subst heq
             obtain ⟨u, v, q1, q2, q3, q4, q5, q6⟩ := heads rfl rfl
             simp only [R] at q1 q2
             obtain ⟨sa, rfl, rfl, _⟩ := q1
             obtain ⟨sb, rfl, rfl, _⟩ := q2
             rw [bytes_inj] at hb
             refine fin (isAgg_plain hty rfl) q3 q4 (sa.toList == sb.toList) (run_equalIn_string w 9998 f.type sa sb hty) (fun hc => ?_) (fun hc => ?_)
             · rw [if_pos hc] at hb
               exact eqFields_sound fs (k + 1) _ xs' ys' cx cy w q5 q6 hks b hb
             · rw [if_neg (by rw [hc]; simp)] at hb
               cases hb; rfl)
      · cases hp
    · cases hp

theorem bin_deep {op : BinOp} {t : TypeId} {x y : Operand} (ht : P.underlying t = some (.struct (P.fieldsOf t))) (hs : P.stoodInHeld t = false) (hg : P.eqGuardType P.depth t = false) {ks : List FK} (hk : plainFields P 0 (P.fieldsOf t).toList = some ks)
    {dx dy d : D} {ux uy : Value} (hx : R C h dx ux) (hy : R C h dy uy) (hd : dbin h.own op (.deep ks) dx dy = some d) :
    Pure1 C P h (do eqGuard op t x y ux uy; binOp op t ux uy) d := by
  cases dx with
  | agg xs =>
    cases dy with
    | agg ys =>
      simp only [R] at hx hy
      obtain ⟨cx, rfl, hx⟩ := hx
      obtain ⟨cy, rfl, hy⟩ := hy
      simp only [dbin] at hd
      have run : ∀ b, dbin.deepEq ks xs ys = some b → (Op.equalIn 10000 t (.agg cx) (.agg cy)).run P h.w = .ok b h.w := fun b hb => by
        rw [run_equalIn_agg h.w 9999 t cx cy ht hs]
        exact eqFields_sound _ 0 ks xs ys cx cy h.w (by simpa using hx) (by simpa using hy) hk b hb
      cases op <;> simp only [Option.map_eq_some_iff, reduceCtorEq] at hd
      · obtain ⟨b, hb, rfl⟩ := hd
        exact ⟨.bool b, by simp only [Sem.run_bind, run_eqGuard_agg h.w .eql t x y cx cy hg, Result.andThen_ok, run_eql_struct, run b hb], by simp [R]⟩
      · obtain ⟨b, hb, rfl⟩ := hd
        exact ⟨.bool !b, by simp only [Sem.run_bind, run_eqGuard_agg h.w .neq t x y cx cy hg, Result.andThen_ok, run_neq_struct, run b hb], by simp [R]⟩
    | _ => simp [dbin] at hd
  | _ => simp [dbin] at hd

/-! ### Unary operators -/
def dun (op : UnOp) (x : D) : Option D :=
  match op, x with
  | .neg, .v (.int k n) => some (.v (.int k (k.wrap (0 - n))))
  | .xor, .v (.int k n) => some (.v (.int k (k.wrap (BitVec.ofInt k.bits (if k.signed then -1 else k.max) ^^^ BitVec.ofInt k.bits n).toNat)))
  | .not, .v (.bool b) => some (.v (.bool (!b)))
  | _, _ => none
theorem dun_sound {op : UnOp} {x d : D} {u : Value} (hr : R C h x u) (hd : dun op x = some d) : Pure1 C P h (Op.unary op u) d := by
  unfold dun at hd
  split at hd <;> first
    | (cases hd; done)
    | (simp only [R] at hr; subst hr
       simp only [Option.some.injEq] at hd
       subst hd
       exact ⟨_, rfl, by simp only [R]⟩)

/-! ### Conversions -/
def unbytes : List D → Option (List Nat)
  | [] => some []
  | .v (.int .u8 n) :: rest => if 0 ≤ n ∧ n < 256 then (unbytes rest).map (n.toNat :: ·) else none
  | _ :: _ => none

def dconv (own : Tr Obj) (c : CK) (x : D) : Option D :=
  match c with
  | .int k => (match x with | .v (.int _ n) => some (.v (.int k (k.wrap n))) | _ => none)
  | .bytes =>
    (match x with
    | .str _ => none
    | _ => (match delems own 1 x with | some xs => (unbytes xs).map .str | none => none))
  | .same => some x
  | .ptr _ _ => none

theorem unbytes_sound : ∀ {xs : List D} {cs : List Value} {ns : List Nat}, RE C h 1 xs cs → unbytes xs = some ns → cs = ns.map (fun (n : Nat) => Value.int .u8 n) ∧ ∀ n ∈ ns, n < 256
  | [], cs, ns, hr, hn => by
    simp only [RE] at hr; subst hr
    simp only [unbytes, Option.some.injEq] at hn; subst hn; simp
  | x :: xs, cs, ns, hr, hn => by
    simp only [RE] at hr
    obtain ⟨u, rest, rfl, h1, h2, h3, h4⟩ := hr
    unfold unbytes at hn
    split at hn
    · rename_i heq; cases heq
    · rename_i n rest' heq
      simp only [List.cons.injEq] at heq
      obtain ⟨rfl, rfl⟩ := heq
      split at hn
      · rename_i hb
        simp only [Option.map_eq_some_iff] at hn
        obtain ⟨ms, hm, rfl⟩ := hn
        obtain ⟨i1, i2⟩ := unbytes_sound h4 hm
        simp only [R] at h3
        subst h3
        refine ⟨?_, ?_⟩
        · rw [i1]; simp [Value.cells, Int.toNat_of_nonneg hb.1]
        · intro m hm'
          rcases List.mem_cons.1 hm' with rfl | hm'
          · omega
          · exact i2 m hm'
      · cases hn
    · cases hn

theorem forIn_bytes {F : Value → ByteArray → Sem (ForInStep ByteArray)} (hF : ∀ (n : Nat) r w, (F (.int .u8 n) r).run P w = .ok (.yield (r.push (UInt8.ofNat n))) w) :
    ∀ (ns : List Nat) (s : ByteArray) (w : World), (forIn (ns.map fun (n : Nat) => Value.int .u8 n) s F : Sem ByteArray).run P w = .ok (ns.foldl (fun s n => s.push (UInt8.ofNat n)) s) w
  | [], s, w => by simp
  | n :: ns, s, w => by
    simp only [List.map_cons, List.forIn_cons, Sem.run_bind, hF, Result.andThen_ok, List.foldl_cons]
    exact forIn_bytes hF ns _ w

theorem foldl_push (f : Nat → UInt8) : ∀ (ns : List Nat) (s : ByteArray), (ns.foldl (fun s n => s.push (f n)) s).data.toList = s.data.toList ++ ns.map f
  | [], s => by simp
  | n :: ns, s => by
    simp only [List.foldl_cons]
    rw [foldl_push f ns]
    simp [ByteArray.push]

theorem conv_int {src dst : TypeId} {d0 : TypeDesc} {k : IntKind} (hs : P.underlying src = some d0) (hd0 : d0 ≠ .string) (hu : P.underlying dst = some (.int k)) {x d : D} {u : Value} (hr : R C h x u) (hd : dconv h.own (.int k) x = some d) :
    Pure1 C P h (convert src dst u) d := by
  cases x with
  | v y =>
    simp only [R] at hr
    subst hr
    cases u <;> simp [dconv] at hd
    subst hd
    refine ⟨_, ?_, by simp only [R]; rfl⟩
    simp [convert, run_underlying hs, run_underlying hu, Conv.intToInt]
  | _ => simp [dconv] at hd

theorem conv_bytes (ok : OK C h) {src dst e : TypeId} (hs : P.underlying src = some (.slice e)) (he : P.underlying e = some (.int .u8)) (hu : P.underlying dst = some .string) {x d : D} {u : Value} (hr : R C h x u) (hd : dconv h.own .bytes x = some d) :
    Pure1 C P h (convert src dst u) d := by
  have main : ∀ xs, delems h.own 1 x = some xs → (∀ s, x ≠ .str s) → (unbytes xs).map .str = some d → Pure1 C P h (convert src dst u) d := by
    intro xs hxs hns hd
    simp only [Option.map_eq_some_iff] at hd
    obtain ⟨ns, hn, rfl⟩ := hd
    obtain ⟨cs, hel⟩ := delems_sound (P := P) ok hr hxs
    obtain ⟨hcs, hlt⟩ := unbytes_sound hel.re hn
    have hlen := hel.re.length
    have hall := hel.all h.w rfl
    have hL := hel.len h.w
    have hRstr : ∀ b : ByteArray, b.data.toList = ns.map UInt8.ofNat → R C h (.str ns) (.string b) := by
      intro b hb
      simp only [R]
      refine ⟨b, rfl, ?_, ?_⟩
      · rw [hb, List.map_map]
        conv => rhs; rw [← List.map_id ns]
        apply List.map_congr_left
        intro n hn
        simp [Function.comp, UInt8.toNat_ofNat', Nat.mod_eq_of_lt (show n < 256 from hlt n hn)]
      · have := hel.bound
        have e1 : ns.length = xs.length := by
          rw [hcs] at hlen; simpa using hlen
        omega
    have hus : ∃ base n c, u = .slice base n c := by
      cases x with
      | sl hd xs' => simp only [R] at hr; rcases hr with ⟨rfl, _⟩ | ⟨_, b, off, cap, size, cs, rfl, _⟩ <;> simp
      | own id off n cap =>
        simp only [delems] at hxs
        split at hxs
        · rename_i size' ys ho
          simp only [R] at hr
          obtain ⟨c', cs', e', f, rfl, _⟩ := hr.2.2.2 _ _ _ ho
          simp
        · cases hxs
      | str s => exact absurd rfl (hns s)
      | _ => simp [delems] at hxs
    obtain ⟨base, n, c, rfl⟩ := hus
    have hn' : n = xs.length := by simpa [Builtin.lenOf] using hL
    subst hn'
    cases base with
    | none =>
      have hcs0 : cs = [] := by
        have := hall
        simp only [Builtin.firstCells, Sem.run_pure, Result.ok.injEq, and_true] at this
        have := congrArg Array.toList this
        simpa using this.symm
      have hns0 : ns = [] := by
        rw [hcs0] at hcs; simpa using hcs.symm
      subst hns0
      refine ⟨.string .empty, ?_, hRstr _ (by rfl)⟩
      simp [convert, run_underlying hs, run_underlying he, run_underlying hu, Conv.bytesToString]
    | some a =>
      have hload : (loadCells a xs.length).run P h.w = .ok cs.toArray h.w := by
        have := hall
        simpa [Builtin.firstCells] using this
      refine ⟨.string (ns.foldl (fun s n => s.push (UInt8.ofNat n)) .empty), ?_, hRstr _ ?_⟩
      · simp only [convert, Sem.run_bind, run_underlying hs, run_underlying he, run_underlying hu, Result.andThen_ok, Conv.bytesToString, hload]
        rw [← Array.forIn_toList, hcs]
        simp only [Sem.run_bind]
        rw [forIn_bytes (P := P) (fun n r w => by simp) ns .empty h.w]
        rfl
      · rw [foldl_push]; rfl
  cases x with
  | str s => simp [dconv] at hd
  | sl hh xs =>
    simp only [dconv] at hd
    split at hd
    · rename_i ys hys; exact main ys hys (by simp) hd
    · cases hd
  | own id off n cap =>
    simp only [dconv] at hd
    split at hd
    · rename_i ys hys; exact main ys hys (by simp) hd
    · cases hd
  | _ => simp [dconv, delems] at hd
end
end Gv
/-! Slice literals, copy, interfaces, max and min. -/
namespace Gv
open Go
set_option linter.unusedVariables false

section
variable {C : Cx} {h : HS} {P : Program}

theorem RE.set {size : Nat} {xs : List D} {cs : List Value} (hr : RE C h size xs cs) {i : Nat} (hi : i < xs.length) {x : D} {u : Value} (hx : R C h x u) (hs : u.cells.size = size) (h1 : ∀ c ∈ u.cells.toList, c.oneCell' = true) :
    RE C h size (xs.set i x) (cs.take (i * size) ++ (u.cells.toList ++ cs.drop (i * size + size))) := by
  obtain ⟨v, r1, r2, r3, r4, r5, r6⟩ := hr.at i (List.getElem?_eq_getElem hi)
  have e1 : xs.set i x = xs.take i ++ (x :: xs.drop (i + 1)) := by
    rw [List.set_eq_take_append_cons_drop]; simp [hi]
  rw [e1]
  exact RE.append r5 (RE.cons hs h1 hx r6)

/-- A literal's elements. -/
def dlit (size : Nat) : List (Nat × D) → List D → Option (List D)
  | [], xs => some xs
  | (i, x) :: rest, xs =>
    match x.cells? with
    | some vs => if vs.length = size ∧ i < xs.length then dlit size rest (xs.set i x) else none
    | none => none

theorem lit_sound {size : Nat} : ∀ {ps : List (Nat × Value)} {qs : List (Nat × D)} {xs out : List D} {cs : List Value}, RE C h size xs cs →
    (ps.length = qs.length ∧ ∀ k (hk : k < ps.length) (hk' : k < qs.length), ps[k].1 = qs[k].1 ∧ R C h qs[k].2 ps[k].2) → dlit size qs xs = some out →
    ∃ co : Array Value, Instr.fill (fun i => some (i * size, size)) cs.toArray ps = some co ∧ RE C h size out co.toList
  | [], [], xs, out, cs, hr, hp, hd => by
    simp only [dlit, Option.some.injEq] at hd
    subst hd
    exact ⟨_, rfl, by simpa using hr⟩
  | [], _ :: _, xs, out, cs, hr, hp, hd => by simp at hp
  | _ :: _, [], xs, out, cs, hr, hp, hd => by simp at hp
  | (i, v) :: ps, (j, x) :: qs, xs, out, cs, hr, hp, hd => by
    obtain ⟨hl, hp⟩ := hp
    have h0 := hp 0 (by simp) (by simp)
    simp only [List.getElem_cons_zero] at h0
    obtain ⟨rfl, h2⟩ := h0
    simp only [dlit] at hd
    cases hcs : x.cells? with
    | none => simp [hcs] at hd
    | some vs =>
    simp only [hcs] at hd
    split at hd
    · rename_i hc
      obtain ⟨hs, hi⟩ := hc
      have hv := cells_sound h2 hcs
      have hvl := hv.length
      have hcl := hr.length
      have hsz : v.cells.size = size := by rw [← Array.length_toList]; omega
      have hle : i * size + size ≤ cs.length := by
        rw [hcl, ← Nat.succ_mul]; exact Nat.mul_le_mul_right _ hi
      have hset := foldl_set v.cells.toList (i * size) 0 cs (by omega)
      have hre := hr.set hi h2 hsz hv.one
      obtain ⟨co, g1, g2⟩ := lit_sound (ps := ps) (qs := qs) hre ⟨by simpa using hl, fun k hk hk' => by
        have := hp (k + 1) (by simpa using hk) (by simpa using hk')
        simpa using this⟩ hd
      refine ⟨co, ?_, g2⟩
      have e : (v.cells.zipIdx.foldl (fun (cs : Array Value) (c : Value × Nat) => cs.setIfInBounds (i * size + c.2) c.1) cs.toArray) = (cs.take (i * size) ++ (v.cells.toList ++ cs.drop (i * size + size))).toArray := by
        apply Array.ext'
        simp only [Nat.add_zero] at hset
        rw [← Array.foldl_toList, Array.toList_zipIdx, hset, hvl, hs]
      simp only [Instr.fill]
      rw [if_neg (by simp [hsz]; omega)]
      have e2 : (Array.foldl (fun cs x => match x with | (c, j) => cs.setIfInBounds (i * size + j) c) cs.toArray v.cells.zipIdx) = (cs.take (i * size) ++ (v.cells.toList ++ cs.drop (i * size + size))).toArray := e
      rw [e2]
      exact g1
    · cases hd

def dbslice (size n : Nat) (z : D) (qs : List (Nat × D)) : Option D :=
  if n ≤ 2 ^ 20 ∧ n * size ≤ 2 ^ 24 then (dlit size qs (List.replicate n z)).map (.sl .full) else none

theorem dlit_length {size : Nat} : ∀ {qs : List (Nat × D)} {xs out : List D}, dlit size qs xs = some out → out.length = xs.length
  | [], xs, out, hd => by simp only [dlit, Option.some.injEq] at hd; subst hd; rfl
  | (i, x) :: qs, xs, out, hd => by
    simp only [dlit] at hd
    split at hd
    · split at hd
      · have := dlit_length hd; simpa using this
      · cases hd
    · cases hd

theorem bslice_sound (ok : OK C h) {t e : TypeId} {size bytes n : Nat} {z : D} (hu : P.underlying t = some (.slice e)) (he : ElemOK P e size bytes z) {ps : Array (Nat × Value)} {qs : List (Nat × D)}
    (hp : ps.toList.length = qs.length ∧ ∀ k (hk : k < ps.toList.length) (hk' : k < qs.length), ps.toList[k].1 = qs[k].1 ∧ R C h qs[k].2 ps.toList[k].2) {d : D} (hd : dbslice size n z qs = some d) :
    Yields C P h (Instr.buildSlice t n ps) d h.own h.next := by
  unfold dbslice at hd
  split at hd
  · rename_i hb
    simp only [Option.map_eq_some_iff] at hd
    obtain ⟨out, ho, rfl⟩ := hd
    obtain ⟨zu, hz1, hz2, hz3, hz4⟩ := he.zero
    have hpos := he.pos
    have hre0 := RE_replicate (C := C) (h := h) hz3 hz4 (hz2 C h) n
    obtain ⟨co, g1, g2⟩ := lit_sound hre0 hp ho
    have hol := dlit_length ho
    simp only [List.length_replicate] at hol
    have hcl : ((Array.range (n * size)).map ((if n * size = 0 then #[] else zu.cells)[· % (if n * size = 0 then #[] else zu.cells).size]!)) = (List.replicate n zu.cells.toList).flatten.toArray := by
      apply Array.ext'
      by_cases h0 : n * size = 0
      · have : n = 0 := by
          rcases Nat.mul_eq_zero.1 h0 with hh | hh
          · exact hh
          · omega
        subst this
        simp
      · have := zeros_list zu.cells (by omega) n
        rw [hz3] at this
        simp only [if_neg h0, hz3]
        exact this
    have hext := Ext.push ok (.cells co e (0, 0))
    refine ⟨.slice (some ⟨h.w.heap.size, 0, none⟩) n n, h.push (.cells co e (0, 0)), ?_, ?_, rfl, rfl, hext, OK.push ok _⟩
    · have hlt : ¬ (n * size > 2 ^ 24) := by omega
      simp only [Instr.buildSlice, Sem.run_bind, run_underlying hu, Result.andThen_ok, he.sz, Sem.run_ite, if_neg hlt]
      by_cases h0 : n * size = 0
      · simp only [h0, if_true] at hcl ⊢
        simp only [Sem.run_bind, Sem.run_pure, Result.andThen_ok]
        simp only [hcl, g1, Sem.run_bind, newRow, run_newObj, Result.andThen_ok, Sem.run_pure, HS.push]
      · simp only [h0, if_false] at hcl ⊢
        simp only [Sem.run_bind, hz1, Sem.run_pure, Result.andThen_ok]
        simp only [hcl, g1, Sem.run_bind, newRow, run_newObj, Result.andThen_ok, Sem.run_pure, HS.push]
    · have := R_sl_of (C := C) (h := h.push (.cells co e (0, 0))) (hd := .full) (xs := out) (b := h.w.heap.size) (off := 0) (cap := n) (size := size) (cs := co.toList) (by simp) (by omega) (fun _ => hol.symm) (by unfold top; omega)
        (fun _ => ⟨by simp [HS.push], by
          rintro ⟨id, o, hg, hM⟩
          have := (ok.id id o hg).2.1
          simp only [HS.push] at hM
          omega, fun hx => by have := ok.X _ hx; omega⟩)
        (by
          intro k hk
          simp only [World.cell?, push_new, Option.isSome_none, Bool.false_eq_true, if_false, Nat.zero_add]
          simp at hk
          simp [hk])
        (g2.ext hext)
      rwa [hol] at this
  · cases hd

/-! ### copy -/
/-- 'copy(s, x)': what the objects are then, and how many were copied. -/
def dcopy (own : Tr Obj) (size : Nat) (s x : D) : Option (D × Tr Obj) :=
  match delems own size x with
  | none => none
  | some ys =>
    match s with
    | .own id off n _ =>
      match own.get id with
      | some (.arr ty size' xs) =>
        if size' = size ∧ off + n ≤ xs.length then
          let m := min ys.length n
          some (.v (.int .i64 m), own.put id (some (.arr ty size (xs.take off ++ (ys.take m ++ xs.drop (off + m))))))
        else none
      | _ => none
    | _ => none

theorem copy_sound (ok : OK C h) {dT sT ty e : TypeId} {size : Nat} (hu : P.underlying dT = some (.slice e)) (hsz : ∀ w, (Go.sizeOf e).run P w = Result.ok size w) {s x d : D} {us ux : Value} (hs : R C h s us) (hx : R C h x ux)
    {own' : Tr Obj} (hd : dcopy h.own size s x = some (d, own')) : Yields C P h (Builtin.copy_ #[dT, sT] ty #[us, ux]) d own' h.next := by
  unfold dcopy at hd
  cases hys : delems h.own size x with
  | none => simp [hys] at hd
  | some ys =>
  simp only [hys] at hd
  obtain ⟨cy, hel⟩ := delems_sound (P := P) ok hx hys
  cases s with
  | own id off n cap =>
    simp only at hd
    split at hd
    · rename_i tyo size' xs ho
      have hc : size' = size ∧ off + n ≤ xs.length := by
        by_cases hc : size' = size ∧ off + n ≤ xs.length
        · exact hc
        · rw [if_neg hc] at hd; cases hd
      rw [if_pos hc] at hd
      obtain ⟨rfl, hfit⟩ := hc
      simp only [Option.some.injEq, Prod.mk.injEq] at hd
      obtain ⟨rfl, rfl⟩ := hd
      simp only [R] at hs
      obtain ⟨_, _, _, hs⟩ := hs
      obtain ⟨c', cc0, el0, f0, rfl, hnc, hcap, hblk0, hfit0⟩ := hs _ _ _ ho
      obtain ⟨_, _, _, c, h9, pre, cs, rest, h10, h11, h12⟩ := ok.id id _ ho
      have hlen := h12.length
      have hcsz : c.size = pre.length + (cs.length + rest.length) := by rw [← Array.length_toList, h10]; simp
      have hm : min ys.length n ≤ ys.length := Nat.min_le_left _ _
      have hm2 : min ys.length n ≤ n := Nat.min_le_right _ _
      have hfirst := hel.first (min ys.length n) hm h.w rfl
      have hret := hel.re.take (min ys.length n)
      have hrl := hret.length
      have hytl : (ys.take (min ys.length n)).length = min ys.length n := by simp
      rw [hytl] at hrl
      have hroom : off * size' + min ys.length n * size' ≤ cs.length := by
        rw [hlen, ← Nat.add_mul]; exact Nat.mul_le_mul_right _ (by omega)
      have hst := run_storeCells_at P (h.M id).1 ((h.M id).2 + off * size') tyo (cy.take (min ys.length n * size')) 0 c h.w h9 (by omega) hret.one
      rw [setRow_eq h9] at hst
      have hnew : c.toList.take ((h.M id).2 + off * size' + 0) ++ cy.take (min ys.length n * size') ++ c.toList.drop ((h.M id).2 + off * size' + 0 + (cy.take (min ys.length n * size')).length) =
          pre ++ ((cs.take (off * size') ++ (cy.take (min ys.length n * size') ++ cs.drop (off * size' + min ys.length n * size'))) ++ rest) := by
        rw [h10, ← h11, Nat.add_zero, hrl]
        rw [List.take_append, List.take_of_length_le (by omega), show pre.length + off * size' - pre.length = off * size' by omega, List.take_append_of_le_length (by omega)]
        rw [List.drop_append, List.drop_of_length_le (by omega), show pre.length + off * size' + min ys.length n * size' - pre.length = off * size' + min ys.length n * size' by omega, List.drop_append_of_le_length (by omega)]
        simp only [List.append_assoc, List.nil_append]
      rw [hnew] at hst
      let o' : Obj := .arr tyo size' (xs.take off ++ (ys.take (min ys.length n) ++ xs.drop (off + min ys.length n)))
      let g : Go.Obj := .cells (pre ++ ((cs.take (off * size') ++ (cy.take (min ys.length n * size') ++ cs.drop (off * size' + min ys.length n * size'))) ++ rest)).toArray tyo (0, 0)
      have hext : Ext h (h.setObj id g o') := by
        refine Ext.setObj ok ho g (by simp [o', Obj.sim]) ?_
        intro c2 e2 f2 hc2
        rw [h9] at hc2
        simp only [Option.some.injEq, Go.Obj.cells.injEq] at hc2
        obtain ⟨rfl, rfl, rfl⟩ := hc2
        refine ⟨_, _, rfl, ?_⟩
        have hA : (cs.take (off * size')).length = off * size' := by simp; omega
        have hB : (cs.drop (off * size' + min ys.length n * size')).length = cs.length - (off * size' + min ys.length n * size') := by simp
        simp only [List.size_toArray, List.length_append, hrl, hA, hB]
        omega
      refine ⟨_, h.setObj id g o', ?_, by simp only [R]; rfl, rfl, rfl, hext, OK.setObj ok ho hext ?_⟩
      · have hl := hel.len h.w
        have hfirst' : (Builtin.firstCells size' (Nat.min ys.length n) ux).run P h.w = .ok (cy.take (min ys.length n * size')).toArray h.w := hfirst
        simp only [Builtin.copy_, List.getElem?_toArray, List.getElem?_cons_zero, List.getElem?_cons_succ, Sem.run_bind, run_underlying hu, Result.andThen_ok, hl, hsz, hfirst']
        have hst' : (storeCells ⟨(h.M id).1, (h.M id).2 + off * size', none⟩ (cy.take (min ys.length n * size')).toArray.toList).run P h.w = .ok () (h.setObj id g o').w := hst
        simp only [hst', Result.andThen_ok, Sem.run_pure, goInt]
      · refine ⟨_, setObj_self (lt_of_heap h9), pre, _, rest, rfl, h11, ?_⟩
        have := RE.append ((h12.take off).ext hext) (RE.append (hret.ext hext) ((h12.drop (off + min ys.length n)).ext hext))
        rw [Nat.add_mul] at this
        exact this
    · cases hd
  | _ => simp at hd

/-! ### Interfaces -/
def dmkif (t : TypeId) (x : D) : D := .iface t x
theorem mkif_sound {t : TypeId} {d0 : TypeDesc} (hu : P.underlying t = some d0) (hn : ∀ ms, d0 ≠ .interface ms) {x : D} {u : Value} (hr : R C h x u) : Pure1 C P h (Instr.makeInterface t u) (.iface t x) := by
  refine ⟨.iface t u, ?_, by simp only [R]; exact ⟨u, rfl, hr⟩⟩
  cases d0 <;> first | (exact absurd rfl (hn _)) | (simp [Instr.makeInterface, run_underlying hu])

/-- 'x.(T)', T no interface. -/
def dtas (t : TypeId) (z : D) (ok : Bool) (x : D) : Option D :=
  match x with
  | .iface t' d => if t' = t then some (if ok then .tup [d, .v (.bool true)] else d) else if ok then some (.tup [z, .v (.bool false)]) else none
  | .v .nilIface => if ok then some (.tup [z, .v (.bool false)]) else none
  | _ => none
theorem tas_sound {t xT : TypeId} {d0 : TypeDesc} (hu : P.underlying t = some d0) (hn : ∀ ms, d0 ≠ .interface ms) {z : D} {zu : Value} (hz : ∀ w, (zeroValue t).run P w = Result.ok zu w) (hrz : R C h z zu) {cok : Bool} {x d : D} {u : Value} (hr : R C h x u)
    (hd : dtas t z cok x = some d) : Pure1 C P h (Instr.typeAssert u xT t cok) d := by
  cases x with
  | iface t' y =>
    simp only [R] at hr
    obtain ⟨v, rfl, hv⟩ := hr
    simp only [dtas] at hd
    split at hd
    · rename_i he
      subst he
      simp only [Option.some.injEq] at hd
      subst hd
      cases cok
      · refine ⟨v, ?_, by simpa using hv⟩
        cases d0 <;> first | (exact absurd rfl (hn _)) | (simp [Instr.typeAssert, run_underlying hu])
      · refine ⟨.tuple #[v, .bool true], ?_, ?_⟩
        · cases d0 <;> first | (exact absurd rfl (hn _)) | (simp [Instr.typeAssert, run_underlying hu])
        · simp only [R, if_true]
          exact ⟨_, rfl, RL.cons (by simp) hv (RL.cons (by simp) (by simp [R]) RL.nil)⟩
    · rename_i he
      split at hd
      · rename_i hc
        simp only [Option.some.injEq] at hd
        subst hd
        refine ⟨.tuple #[zu, .bool false], ?_, ?_⟩
        · cases d0 <;> first | (exact absurd rfl (hn _)) | (simp [Instr.typeAssert, run_underlying hu, he, hc, hz])
        · simp only [R]
          exact ⟨_, rfl, RL.cons (by simp) hrz (RL.cons (by simp) (by simp [R]) RL.nil)⟩
      · cases hd
  | v y =>
    simp only [R] at hr
    subst hr
    cases u <;> simp [dtas] at hd
    obtain ⟨hc, rfl⟩ := hd
    refine ⟨.tuple #[zu, .bool false], ?_, ?_⟩
    · cases d0 <;> first | (exact absurd rfl (hn _)) | (simp [Instr.typeAssert, run_underlying hu, hc, hz])
    · simp only [R]
      exact ⟨_, rfl, RL.cons (by simp) hrz (RL.cons (by simp) (by simp [R]) RL.nil)⟩
  | _ => simp [dtas] at hd

/-! ### max, min -/
def dmax : List D → Option D
  | .v (.int k a) :: rest => (go k a rest)
  | _ => none
  where
  go (k : IntKind) (a : Int) : List D → Option D
    | [] => some (.v (.int k a))
    | .v (.int _ b) :: rest => go k (if b > a then b else a) rest
    | _ => none
def dmin : List D → Option D
  | .v (.int k a) :: rest => (go k a rest)
  | _ => none
  where
  go (k : IntKind) (a : Int) : List D → Option D
    | [] => some (.v (.int k a))
    | .v (.int _ b) :: rest => go k (if b < a then b else a) rest
    | _ => none

theorem dmax_go {k : IntKind} : ∀ {ds : List D} {us : List Value} {a : Int} {d : D}, RL C h false ds us → dmax.go k a ds = some d → ∃ v, (us.foldlM Builtin.max2 (.int k a)).run P h.w = .ok v h.w ∧ R C h d v
  | [], us, a, d, hr, hd => by
    have := hr.nil_inv; subst this
    simp only [dmax.go, Option.some.injEq] at hd; subst hd
    exact ⟨_, rfl, by simp only [R]⟩
  | x :: ds, us, a, d, hr, hd => by
    obtain ⟨u, rest, rfl, _, hu, hr'⟩ := hr.cons_inv
    unfold dmax.go at hd
    split at hd
    · rename_i heq; cases heq
    · rename_i k' b rest' heq
      simp only [List.cons.injEq] at heq
      obtain ⟨rfl, rfl⟩ := heq
      simp only [R] at hu
      subst hu
      obtain ⟨v, h1, h2⟩ := dmax_go hr' hd
      exact ⟨v, by simp only [List.foldlM_cons, Builtin.max2, pure_bind]; exact h1, h2⟩
    · cases hd
theorem dmin_go {k : IntKind} : ∀ {ds : List D} {us : List Value} {a : Int} {d : D}, RL C h false ds us → dmin.go k a ds = some d → ∃ v, (us.foldlM Builtin.min2 (.int k a)).run P h.w = .ok v h.w ∧ R C h d v
  | [], us, a, d, hr, hd => by
    have := hr.nil_inv; subst this
    simp only [dmin.go, Option.some.injEq] at hd; subst hd
    exact ⟨_, rfl, by simp only [R]⟩
  | x :: ds, us, a, d, hr, hd => by
    obtain ⟨u, rest, rfl, _, hu, hr'⟩ := hr.cons_inv
    unfold dmin.go at hd
    split at hd
    · rename_i heq; cases heq
    · rename_i k' b rest' heq
      simp only [List.cons.injEq] at heq
      obtain ⟨rfl, rfl⟩ := heq
      simp only [R] at hu
      subst hu
      obtain ⟨v, h1, h2⟩ := dmin_go hr' hd
      exact ⟨v, by simp only [List.foldlM_cons, Builtin.min2, pure_bind]; exact h1, h2⟩
    · cases hd
theorem dmax_sound {tys : Array TypeId} {ty : TypeId} {ds : List D} {us : Array Value} {d : D} (hr : RL C h false ds us.toList) (hd : dmax ds = some d) : Pure1 C P h (Builtin.max_ tys ty us) d := by
  unfold dmax at hd
  split at hd
  · rename_i k a rest
    obtain ⟨u, rest', he, _, hu, hr'⟩ := hr.cons_inv
    simp only [R] at hu
    subst hu
    obtain ⟨v, h1, h2⟩ := dmax_go (P := P) hr' hd
    exact ⟨v, by simp only [Builtin.max_, he]; exact h1, h2⟩
  · cases hd
theorem dmin_sound {tys : Array TypeId} {ty : TypeId} {ds : List D} {us : Array Value} {d : D} (hr : RL C h false ds us.toList) (hd : dmin ds = some d) : Pure1 C P h (Builtin.min_ tys ty us) d := by
  unfold dmin at hd
  split at hd
  · rename_i k a rest
    obtain ⟨u, rest', he, _, hu, hr'⟩ := hr.cons_inv
    simp only [R] at hu
    subst hu
    obtain ⟨v, h1, h2⟩ := dmin_go (P := P) hr' hd
    exact ⟨v, by simp only [Builtin.min_, he]; exact h1, h2⟩
  · cases hd
end
end Gv
/-! Maps; ranges over strings. -/
namespace Gv
open Go
set_option linter.unusedVariables false

section
variable {C : Cx} {h : HS} {P : Program}

/-- Are two keys alike? -/
def keq (k : BK) (x y : D) : Option Bool :=
  match k with
  | .sc => (match x, y with | .v (.int k a), .v (.int k' b) => if k = k' then some (a == b) else none | _, _ => none)
  | .str => (match x, y with | .str a, .str b => some (a == b) | _, _ => none)
  | .deep ks => (match x, y with | .agg xs, .agg ys => dbin.deepEq ks xs ys | _, _ => none)
  | _ => none

def dfind (k : BK) (i : D) : List (D × D) → Nat → Option (Option (Nat × D))
  | [], _ => some none
  | (k0, v) :: es, n =>
    match keq k i k0 with
    | some true => some (some (n, v))
    | some false => dfind k i es (n + 1)
    | none => none

/-- Is it a key of its kind? -/
def keyFit (k : BK) (i : D) : Bool :=
  match k, i with
  | .sc, .v (.int _ _) => true
  | .str, .str _ => true
  | .deep ks, .agg xs => (dbin.deepEq ks xs xs == some true)
  | _, _ => false

inductive KeyOK (P : Program) (t : TypeId) : BK → Prop
  | int {k} : P.underlying t = some (.int k) → KeyOK P t .sc
  | str : P.underlying t = some .string → KeyOK P t .str
  | deep {ks} : P.underlying t = some (.struct (P.fieldsOf t)) → P.stoodInHeld t = false → plainFields P 0 (P.fieldsOf t).toList = some ks → KeyOK P t (.deep ks)

def noDeep : TypeDesc → Bool
  | .interface _ | .array .. | .struct _ => false
  | _ => true

theorem checkKey_plain {d : Nat} {t : TypeId} {e : Bool} {u : Value} {td : TypeDesc} (hu : P.underlying t = some td) (hd : noDeep td = true) (w : World) : (Instr.checkKey e (d + 1) t u).run P w = .ok () w := by
  cases td <;> simp [noDeep] at hd <;> simp [Instr.checkKey, run_underlying hu]

theorem checkKey_fields (d : Nat) {e : Bool} {cs : Array Value} : ∀ (fs : List Field) (k : Nat) (ks : List FK) (w : World), plainFields P k fs = some ks → k + fs.length ≤ cs.size →
    (forIn fs PUnit.unit (fun f (_ : PUnit) => do
      if f.name ≠ "_" then Instr.checkKey e (d + 1) f.type (← part f.type cs f.offset)
      pure (ForInStep.yield PUnit.unit)) : Sem PUnit).run P w = .ok PUnit.unit w
  | [], k, ks, w, hp, hl => by simp
  | f :: fs, k, ks, w, hp, hl => by
    simp only [plainFields] at hp
    split at hp
    · rename_i hc
      obtain ⟨hoff, hname⟩ := hc
      have hlt : k < cs.size := by simp at hl; omega
      obtain ⟨td, ks', hu, hd, hks⟩ : ∃ td ks', P.underlying f.type = some td ∧ noDeep td = true ∧ plainFields P (k + 1) fs = some ks' := by
        split at hp
        · rename_i ks' kk hks hty; exact ⟨_, _, hty, rfl, hks⟩
        · rename_i ks' hks hty; exact ⟨_, _, hty, rfl, hks⟩
        · rename_i ks' hks hty; exact ⟨_, _, hty, rfl, hks⟩
        · cases hp
      have hag : ∀ w, (isAgg f.type).run P w = .ok false w := isAgg_plain hu (by cases td <;> simp [noDeep] at hd <;> rfl)
      have hpart : ∀ w, (part f.type cs f.offset).run P w = .ok cs[k] w := fun w => by simp [part, hag, hoff, hlt]
      have hck : ∀ w, (Instr.checkKey e (d + 1) f.type cs[k]).run P w = .ok () w := fun w => checkKey_plain (d := d) hu hd w
      have ih := checkKey_fields d (e := e) (cs := cs) fs (k + 1) ks' w hks (by simp at hl; omega)
      simp only [List.forIn_cons, Sem.run_bind, hname, ne_eq, not_false_eq_true, if_true, hpart, Result.andThen_ok, hck, Sem.run_pure]
      exact ih
    · cases hp

theorem plain_length : ∀ {fs : List Field} {k : Nat} {ks : List FK}, plainFields P k fs = some ks → ks.length = fs.length
  | [], k, ks, hp => by simp only [plainFields, Option.some.injEq] at hp; subst hp; rfl
  | f :: fs, k, ks, hp => by
    simp only [plainFields] at hp
    split at hp
    · split at hp <;> first
        | (cases hp; done)
        | (simp only [Option.some.injEq] at hp; subst hp; rename_i hks _; simp [plain_length hks])
    · cases hp
theorem deepEq_length : ∀ {ks : List FK} {xs ys : List D}, dbin.deepEq ks xs ys = some true → xs.length = ks.length
  | ks, xs, ys, hd => by
    unfold dbin.deepEq at hd
    split at hd
    · rfl
    · split at hd
      · split at hd
        · simp [deepEq_length hd]
        · cases hd
      · cases hd
    · split at hd
      · simp [deepEq_length hd]
      · cases hd
    · split at hd
      · simp [deepEq_length hd]
      · cases hd
    · cases hd
  termination_by ks => ks.length

theorem checkKey_sound {t : TypeId} {k : BK} (hk : KeyOK P t k) {i : D} {u : Value} (hr : R C h i u) (hf : keyFit k i = true) (e : Bool) (w : World) : (Instr.checkKey e 10000 t u).run P w = .ok () w := by
  cases hk with
  | int hu => exact checkKey_plain (d := 9999) hu rfl w
  | str hu => exact checkKey_plain (d := 9999) hu rfl w
  | deep hu hs hp =>
    cases i with
    | agg xs =>
      simp only [keyFit, beq_iff_eq] at hf
      simp only [R] at hr
      obtain ⟨cs, rfl, hr⟩ := hr
      have hl := hr.length
      have h1 := deepEq_length hf
      have h2 := plain_length hp
      have gen : ∀ d, (Instr.checkKey e (d + 1 + 1) t (.agg cs)).run P w = .ok () w := fun d => by
       have hfor := checkKey_fields (P := P) d (e := e) (cs := cs) _ 0 _ w hp (by simp at hl h2 ⊢; omega)
       rw [Instr.checkKey]
       simp only [Sem.run_bind, run_underlying hu, Result.andThen_ok]
       rw [← Array.forIn_toList]
       simp only [ne_eq, ite_not] at hfor ⊢
       rw [hfor]
       rfl
      exact gen 9998
    | _ => simp [keyFit] at hf

/-- A key's comparison, as the machine does it where it asks. -/
theorem keq_equal {t : TypeId} {k : BK} (hk : KeyOK P t k) {x y : D} {ux uy : Value} (hx : R C h x ux) (hy : R C h y uy) {b : Bool} (hb : keq k x y = some b) (w : World) : (Op.equal t ux uy).run P w = .ok b w := by
  cases hk with
  | int hu =>
    unfold keq at hb
    simp only at hb
    split at hb
    · rename_i k1 a k2 b'
      simp only [R] at hx hy
      subst hx; subst hy
      split at hb
      · rename_i he; subst he
        simp only [Option.some.injEq] at hb
        subst hb
        exact run_equalIn_int w 9999 t _ _ a b' hu
      · cases hb
    · cases hb
  | str hu =>
    unfold keq at hb
    simp only at hb
    split at hb
    · rename_i a b'
      simp only [R] at hx hy
      obtain ⟨sa, rfl, rfl, _⟩ := hx
      obtain ⟨sb, rfl, rfl, _⟩ := hy
      simp only [Option.some.injEq] at hb
      rw [bytes_inj] at hb
      subst hb
      exact run_equalIn_string w 9999 t sa sb hu
    · cases hb
  | deep hu hs hp =>
    unfold keq at hb
    simp only at hb
    split at hb
    · rename_i xs ys
      simp only [R] at hx hy
      obtain ⟨cx, rfl, hx⟩ := hx
      obtain ⟨cy, rfl, hy⟩ := hy
      show (Op.equalIn 10000 t (.agg cx) (.agg cy)).run P w = _
      rw [run_equalIn_agg w 9999 t cx cy hu hs]
      exact eqFields_sound _ 0 _ xs ys cx cy w (by simpa using hx) (by simpa using hy) hp b hb
    · cases hb

/-- Alike keys have alike bits. -/
theorem deepEq_bits : ∀ {ks : List FK} {xs ys : List D} {cx cy : List Value}, RL C h true xs cx → RL C h true ys cy → dbin.deepEq ks xs ys = some true → cx.length = cy.length ∧ (cy.zip cx).all (fun (x, y) => Instr.sameBits 9999 x y) = true
  | ks, xs, ys, cx, cy, hx, hy, hd => by
    unfold dbin.deepEq at hd
    split at hd
    · have := hx.nil_inv; subst this
      have := hy.nil_inv; subst this
      simp
    · rename_i ks' k1 a xs' k2 b ys'
      obtain ⟨u, r1, rfl, _, hu, h1⟩ := hx.cons_inv
      obtain ⟨v, r2, rfl, _, hv, h2⟩ := hy.cons_inv
      split at hd
      · rename_i hk; subst hk
        split at hd
        · rename_i hab
          obtain ⟨i1, i2⟩ := deepEq_bits h1 h2 hd
          simp only [R] at hu hv
          subst hu; subst hv
          have : a = b := by simpa using hab
          subst this
          refine ⟨by simp [i1], ?_⟩
          simp only [List.zip_cons_cons, List.all_cons, Bool.and_eq_true]
          exact ⟨by simp [Instr.sameBits], i2⟩
        · cases hd
      · cases hd
    · rename_i ks' a xs' b ys'
      obtain ⟨u, r1, rfl, _, hu, h1⟩ := hx.cons_inv
      obtain ⟨v, r2, rfl, _, hv, h2⟩ := hy.cons_inv
      split at hd
      · rename_i hab
        obtain ⟨i1, i2⟩ := deepEq_bits h1 h2 hd
        simp only [R] at hu hv
        subst hu; subst hv
        have : a = b := by simpa using hab
        subst this
        refine ⟨by simp [i1], ?_⟩
        simp only [List.zip_cons_cons, List.all_cons, Bool.and_eq_true]
        exact ⟨by simp [Instr.sameBits], i2⟩
      · cases hd
    · rename_i ks' a xs' b ys'
      obtain ⟨u, r1, rfl, _, hu, h1⟩ := hx.cons_inv
      obtain ⟨v, r2, rfl, _, hv, h2⟩ := hy.cons_inv
      split at hd
      · rename_i hab
        obtain ⟨i1, i2⟩ := deepEq_bits h1 h2 hd
        simp only [R] at hu hv
        obtain ⟨sa, rfl, rfl, _⟩ := hu
        obtain ⟨sb, rfl, rfl, _⟩ := hv
        rw [bytes_inj] at hab
        refine ⟨by simp [i1], ?_⟩
        simp only [List.zip_cons_cons, List.all_cons, Bool.and_eq_true]
        refine ⟨?_, i2⟩
        simp only [Instr.sameBits, beq_toListBytes]
        rw [beq_iff_eq] at hab ⊢
        exact hab.symm
      · cases hd
    · cases hd
  termination_by ks => ks.length

theorem keq_bits {k : BK} {x y : D} {ux uy : Value} (hx : R C h x ux) (hy : R C h y uy) (hb : keq k x y = some true) : Instr.sameBits 10000 uy ux = true := by
  unfold keq at hb
  split at hb
  · split at hb
    · rename_i k1 a k2 b'
      simp only [R] at hx hy
      subst hx; subst hy
      split at hb
      · rename_i he; subst he
        simp only [Option.some.injEq, beq_iff_eq] at hb
        subst hb
        simp [Instr.sameBits]
      · cases hb
    · cases hb
  · split at hb
    · rename_i a b'
      simp only [R] at hx hy
      obtain ⟨sa, rfl, rfl, _⟩ := hx
      obtain ⟨sb, rfl, rfl, _⟩ := hy
      simp only [Option.some.injEq] at hb
      rw [bytes_inj, beq_iff_eq] at hb
      simp only [Instr.sameBits, beq_toListBytes]
      rw [beq_iff_eq]; exact hb.symm
    · cases hb
  · split at hb
    · rename_i ks xs ys
      simp only [R] at hx hy
      obtain ⟨cx, rfl, hx⟩ := hx
      obtain ⟨cy, rfl, hy⟩ := hy
      obtain ⟨h1, h2⟩ := deepEq_bits hx hy hb
      have gen : ∀ d, ((cy.toList.zip cx.toList).all (fun (x, y) => Instr.sameBits d x y) = true) → Instr.sameBits (d + 1) (.agg cy) (.agg cx) = true := fun d hd => by
        simp only [Instr.sameBits, Bool.and_eq_true, beq_iff_eq]
        exact ⟨by simpa using h1.symm, hd⟩
      exact gen 9999 h2
    · cases hb
  · cases hb

def FindR (C : Cx) (h : HS) (r : Option (Nat × D)) (res : Option (Nat × Value)) : Prop :=
  match r, res with | none, none => True | some (j, d), some (j', v) => j = j' ∧ R C h d v | _, _ => False

/-- The machine's look for a key. -/
theorem findAsking_sound {t : TypeId} {k : BK} (hk : KeyOK P t k) {i : D} {u : Value} (hi : R C h i u) (w : World) : ∀ {es : List (D × D)} {ents : List MapEntry} {n : Nat} {r : Option (Nat × D)}, RM C h es ents → dfind k i es n = some r →
    ∃ res, (Instr.findAsking t u ents n).run P w = .ok res w ∧ FindR C h r res
  | [], ents, n, r, hr, hf => by
    simp only [RM] at hr; subst hr
    simp only [dfind, Option.some.injEq] at hf; subst hf
    exact ⟨none, by simp [Instr.findAsking], trivial⟩
  | (k0, v) :: es, ents, n, r, hr, hf => by
    obtain ⟨e, rest, rfl, h1, h2, h3⟩ := hr
    simp only [dfind] at hf
    cases hq : keq k i k0 with
    | none => simp [hq] at hf
    | some b =>
      have heq := keq_equal hk hi h1 hq w
      cases b with
      | true =>
        simp only [hq, Option.some.injEq] at hf
        subst hf
        exact ⟨some (n, e.val), by simp [Instr.findAsking, heq], rfl, h2⟩
      | false =>
        simp only [hq] at hf
        obtain ⟨res, g1, g2⟩ := findAsking_sound hk hi w h3 hf
        exact ⟨res, by simp [Instr.findAsking, heq, g1], g2⟩

theorem findNow_sound {t : TypeId} {k : BK} {td : TypeDesc} (hk : KeyOK P t k) (hu : P.underlying t = some td) {i : D} {u : Value} (hi : R C h i u) : ∀ {es : List (D × D)} {ents : List MapEntry} {n : Nat} {r : Option (Nat × D)}, RM C h es ents → dfind k i es n = some r →
    ∀ res, Instr.findNow td u ents n = some res → FindR C h r res
  | [], ents, n, r, hr, hf => by
    intro res hres
    simp only [RM] at hr; subst hr
    simp only [dfind, Option.some.injEq] at hf; subst hf
    simp only [Instr.findNow, Option.some.injEq] at hres; subst hres; trivial
  | (k0, v) :: es, ents, n, r, hr, hf => by
    intro res hres
    obtain ⟨e, rest, rfl, h1, h2, h3⟩ := hr
    simp only [dfind] at hf
    simp only [Instr.findNow] at hres
    cases hs : Instr.sameNow td u e.key with
    | none => simp [hs] at hres
    | some c =>
      simp only [hs] at hres
      cases hq : keq k i k0 with
      | none => simp [hq] at hf
      | some b =>
        have hbc : b = c := by
          have heq := keq_equal hk hi h1 hq h.w
          cases hk with
          | int hu' =>
            rw [hu] at hu'; cases hu'
            unfold keq at hq
            simp only at hq
            split at hq
            · rename_i k1 a k2 b'
              simp only [R] at hi h1
              rw [hi, h1] at hs
              split at hq
              · rename_i hke; subst hke
                simp [Instr.sameNow] at hs
                simp only [Option.some.injEq] at hq
                rw [← hq, ← hs]
              · cases hq
            · cases hq
          | str hu' =>
            rw [hu] at hu'; cases hu'
            unfold keq at hq
            simp only at hq
            split at hq
            · rename_i a b'
              simp only [R] at hi h1
              obtain ⟨sa, rfl, rfl, _⟩ := hi
              obtain ⟨sb, he, rfl, _⟩ := h1
              rw [he] at hs
              simp only [Instr.sameNow, Option.some.injEq] at hs
              simp only [Option.some.injEq] at hq
              rw [bytes_inj, ← beq_toListBytes] at hq
              rw [← hq, ← hs]
            · cases hq
          | deep hu' hs' hp =>
            rw [hu] at hu'; cases hu'
            simp [Instr.sameNow] at hs
        subst hbc
        cases b with
        | true =>
          simp only [hq, Option.some.injEq] at hf
          simp only [Option.some.injEq] at hres
          subst hf; subst hres
          exact ⟨rfl, h2⟩
        | false =>
          simp only [hq] at hf
          exact findNow_sound hk hu hi h3 hf res hres

theorem findKey_sound {t : TypeId} {k : BK} (hk : KeyOK P t k) {i : D} {u : Value} (hi : R C h i u) (w : World) {es : List (D × D)} {ents : List MapEntry} {r : Option (Nat × D)} (hr : RM C h es ents) (hf : dfind k i es 0 = some r) :
    ∃ res, (Instr.findKey t u ents).run P w = .ok res w ∧ FindR C h r res := by
  have hu : ∃ td, P.underlying t = some td := by cases hk <;> exact ⟨_, by assumption⟩
  obtain ⟨td, hu⟩ := hu
  cases hn : Instr.findNow td u ents 0 with
  | some res => exact ⟨res, by simp [Instr.findKey, run_underlying hu, hn], findNow_sound hk hu hi hr hf res hn⟩
  | none =>
    obtain ⟨res, g1, g2⟩ := findAsking_sound hk hi w hr hf
    exact ⟨res, by simp [Instr.findKey, run_underlying hu, hn, g1], g2⟩

def dlookup (own : Tr Obj) (k : BK) (z : D) (ok : Bool) (m i : D) : Option D :=
  let fin (r : Option (Nat × D)) : D := match r with
    | some (_, d) => if ok then .tup [d, .v (.bool true)] else d
    | none => if ok then .tup [z, .v (.bool false)] else z
  if keyFit k i then
    match m with
    | .map id => (match own.get id with | some (.map es) => (dfind k i es 0).map fin | _ => none)
    | .v (.map none) => some (fin none)
    | _ => none
  else none

theorem lookup_sound (ok : OK C h) {t kt e : TypeId} {k : BK} (hu : P.underlying t = some (.map kt e)) (hk : KeyOK P kt k) {z : D} {zu : Value} (hz : ∀ w, (zeroValue e).run P w = Result.ok zu w) (hrz : R C h z zu) {cok : Bool} {m i d : D} {um ui : Value}
    (hm : R C h m um) (hi : R C h i ui) (hd : dlookup h.own k z cok m i = some d) : Pure1 C P h (Instr.lookup t um ui cok) d := by
  unfold dlookup at hd
  simp only at hd
  split at hd
  · rename_i hfit
    have main : ∀ (es : List (D × D)) (ents : Array MapEntry), RM C h es ents.toList → ∀ r, dfind k i es 0 = some r → (∀ w, (Instr.checkKey ents.isEmpty 10000 kt ui).run P w = .ok () w) →
        ∃ res, (Instr.findKey kt ui ents.toList).run P h.w = .ok res h.w ∧ R C h (match r with | some (_, d) => if cok then .tup [d, .v (.bool true)] else d | none => if cok then .tup [z, .v (.bool false)] else z)
          (match res with | some (_, v) => if cok then .tuple #[v, .bool true] else v | none => if cok then .tuple #[zu, .bool false] else zu) := by
      intro es ents hr r hf _
      obtain ⟨res, g1, g2⟩ := findKey_sound hk hi h.w hr hf
      refine ⟨res, g1, ?_⟩
      cases r with
      | none =>
        cases res with
        | some _ => exact g2.elim
        | none =>
          cases cok
          · simpa using hrz
          · simp only [if_true, R]
            exact ⟨_, rfl, RL.cons (by simp) hrz (RL.cons (by simp) (by simp [R]) RL.nil)⟩
      | some p =>
        obtain ⟨j, d⟩ := p
        cases res with
        | none => exact g2.elim
        | some q =>
          obtain ⟨j', v⟩ := q
          obtain ⟨_, g3⟩ := g2
          cases cok
          · simpa using g3
          · simp only [if_true, R]
            exact ⟨_, rfl, RL.cons (by simp) g3 (RL.cons (by simp) (by simp [R]) RL.nil)⟩
    have hck := fun e w => checkKey_sound hk hi hfit e w
    split at hd
    · rename_i id
      split at hd
      · rename_i es ho
        simp only [Option.map_eq_some_iff] at hd
        obtain ⟨r, hf, rfl⟩ := hd
        simp only [R] at hm
        have := hm.2.2 _ ho
        subst this
        obtain ⟨_, _, _, ents, clock, hb, hrm⟩ := ok.id id _ ho
        obtain ⟨res, g1, g2⟩ := main es ents hrm r hf (hck _)
        refine ⟨_, ?_, g2⟩
        have hget : (getObj (h.M id).1).run P h.w = .ok (.map ents clock) h.w := by simp [getObj, Sem.run, hb]
        simp only [Instr.lookup, Sem.run_bind, run_underlying hu, Result.andThen_ok, hget, Sem.run_pure, hck, g1]
        cases res with
        | none => cases cok <;> simp [hz]
        | some q => cases cok <;> simp
      · cases hd
    · simp only [Option.some.injEq] at hd
      subst hd
      simp only [R] at hm
      subst hm
      obtain ⟨res, g1, g2⟩ := main [] #[] (by simp [RM]) none (by simp [dfind]) (hck _)
      refine ⟨_, ?_, g2⟩
      simp only [Instr.lookup, Sem.run_bind, run_underlying hu, Result.andThen_ok, Sem.run_pure, hck]
      have g1' : (Instr.findKey kt ui (#[] : Array MapEntry).toList).run P h.w = .ok res h.w := g1
      simp only [g1', Result.andThen_ok]
      cases res with
      | none => cases cok <;> simp [hz]
      | some q => cases cok <;> simp
    · cases hd
  · cases hd

def dmupd (own : Tr Obj) (k : BK) (m i x : D) : Option (Tr Obj) :=
  if keyFit k i then
    match m with
    | .map id =>
      (match own.get id with
      | some (.map es) =>
        (match dfind k i es 0 with
        | some (some (j, _)) => some (own.put id (some (.map (es.set j (i, x)))))
        | some none => some (own.put id (some (.map (es ++ [(i, x)]))))
        | none => none)
      | _ => none)
    | _ => none
  else none

theorem RM.append : ∀ {es fs : List (D × D)} {a b : List MapEntry}, RM C h es a → RM C h fs b → RM C h (es ++ fs) (a ++ b)
  | [], fs, a, b, h1, h2 => by simp only [RM] at h1; subst h1; simpa using h2
  | (k, x) :: es, fs, a, b, h1, h2 => by
    obtain ⟨e, rest, rfl, q1, q2, q3⟩ := h1
    exact ⟨e, rest ++ b, rfl, q1, q2, RM.append q3 h2⟩
theorem RM.set : ∀ {es : List (D × D)} {a : List MapEntry} {j : Nat} {k x : D} (f : MapEntry → MapEntry), RM C h es a → (∀ e, R C h k (f e).key ∧ R C h x (f e).val) → RM C h (es.set j (k, x)) (a.modify j f)
  | [], a, j, k, x, f, h1, h2 => by simp only [RM] at h1; subst h1; simp [RM]
  | (k0, x0) :: es, a, 0, k, x, f, h1, h2 => by
    obtain ⟨e, rest, rfl, q1, q2, q3⟩ := h1
    exact ⟨f e, rest, rfl, (h2 e).1, (h2 e).2, q3⟩
  | (k0, x0) :: es, a, j + 1, k, x, f, h1, h2 => by
    obtain ⟨e, rest, rfl, q1, q2, q3⟩ := h1
    exact ⟨e, rest.modify j f, rfl, q1, q2, RM.set f q3 h2⟩
theorem RM.get : ∀ {es : List (D × D)} {a : List MapEntry} {k : BK} {i : D} {n j : Nat} {d : D}, RM C h es a → dfind k i es n = some (some (j, d)) → ∃ (k0 : D) (e : MapEntry), n ≤ j ∧ a[j - n]? = some e ∧ R C h k0 e.key ∧ keq k i k0 = some true
  | [], a, k, i, n, j, d, h1, hf => by simp [dfind] at hf
  | (k0, x0) :: es, a, k, i, n, j, d, h1, hf => by
    obtain ⟨e, rest, rfl, q1, q2, q3⟩ := h1
    simp only [dfind] at hf
    split at hf
    · rename_i hq
      simp only [Option.some.injEq, Prod.mk.injEq] at hf
      obtain ⟨rfl, _⟩ := hf
      exact ⟨k0, e, Nat.le_refl _, by simp, q1, hq⟩
    · obtain ⟨k1, e1, r1, r2, r3⟩ := RM.get q3 hf
      refine ⟨k1, e1, by omega, ?_, r3⟩
      rw [show j - n = (j - (n + 1)) + 1 by omega]
      simpa using r2
    · cases hf

theorem mupd_sound (ok : OK C h) {t kt e : TypeId} {k : BK} (hu : P.underlying t = some (.map kt e)) (hk : KeyOK P kt k) {m i x : D} {um ui ux : Value}
    (hm : R C h m um) (hi : R C h i ui) (hx : R C h x ux) {own' : Tr Obj} (hd : dmupd h.own k m i x = some own') :
    ∃ h' : HS, (Instr.mapUpdate t um ui ux).run P h.w = .ok () h'.w ∧ h'.own = own' ∧ h'.next = h.next ∧ Ext h h' ∧ OK C h' := by
  unfold dmupd at hd
  split at hd
  · rename_i hfit
    have hck := fun e w => checkKey_sound hk hi hfit e w
    split at hd
    · rename_i id
      split at hd
      · rename_i es ho
        simp only [R] at hm
        have := hm.2.2 _ ho
        subst this
        obtain ⟨_, hMlt, _, ents, clock, hb, hrm⟩ := ok.id id _ ho
        have hget : (getObj (h.M id).1).run P h.w = .ok (.map ents clock) h.w := by simp [getObj, Sem.run, hb]
        have hset : ∀ o : Go.Obj, (setObj (h.M id).1 o).run P h.w = .ok () { h.w with heap := h.w.heap.setIfInBounds (h.M id).1 o } := by intro o; simp [setObj, Sem.run, hb]
        have hext : ∀ (g : Go.Obj) (es' : List (D × D)), Ext h (h.setObj id g (.map es')) := fun g es' => Ext.setObj ok ho g (by simp [Obj.sim]) (by intro c e f hc; rw [hb] at hc; cases hc)
        split at hd
        · rename_i j dj hf
          simp only [Option.some.injEq] at hd
          subst hd
          obtain ⟨res, g1, g2⟩ := findKey_sound hk hi h.w hrm hf
          cases res with
          | none => exact g2.elim
          | some q =>
            obtain ⟨j', v⟩ := q
            obtain ⟨rfl, _⟩ := g2
            obtain ⟨k0, e0, _, q2, q3, q4⟩ := RM.get hrm hf
            have hbits := keq_bits hi q3 q4
            have hej : ents[j]? = some e0 := by simpa using q2
            refine ⟨h.setObj id (.map (ents.modify j fun e => { e with key := ui, val := ux }) clock) (.map (es.set j (i, x))), ?_, rfl, rfl, hext _ _, OK.setObj ok ho (hext _ _) ?_⟩
            · simp only [Instr.mapUpdate, Sem.run_bind, run_underlying hu, Result.andThen_ok, hget, hck, g1, hej, Option.map_some, Option.getD_some]
              simp only [Instr.keyThatStays, hbits, if_true, Sem.run_pure, Result.andThen_ok, hset]
              rfl
            · refine ⟨_, clock, setObj_self hMlt, ?_⟩
              rw [Array.toList_modify]
              exact RM.set _ (hrm.ext (hext _ _)) (fun e => ⟨hi.ext (hext _ _), hx.ext (hext _ _)⟩)
        · rename_i hf
          simp only [Option.some.injEq] at hd
          subst hd
          obtain ⟨res, g1, g2⟩ := findKey_sound hk hi h.w hrm hf
          cases res with
          | some q => exact g2.elim
          | none =>
            refine ⟨h.setObj id (.map (ents.push { key := ui, val := ux, born := clock }) (clock + 1)) (.map (es ++ [(i, x)])), ?_, rfl, rfl, hext _ _, OK.setObj ok ho (hext _ _) ?_⟩
            · simp only [Instr.mapUpdate, Sem.run_bind, run_underlying hu, Result.andThen_ok, hget, hck, g1, hset]
              rfl
            · refine ⟨_, clock + 1, setObj_self hMlt, ?_⟩
              rw [Array.toList_push]
              exact RM.append (hrm.ext (hext _ _)) ⟨_, [], rfl, hi.ext (hext _ _), hx.ext (hext _ _), by simp [RM]⟩
        · cases hd
      · cases hd
    · cases hd
  · cases hd

theorem mkmap_sound (ok : OK C h) {t : TypeId} : Yields C P h (Instr.makeMap t none) (.map h.next) (h.own.put h.next (some (.map []))) (h.next + 1) := by
  have hext := Ext.alloc ok (.map #[] 0) (.map [])
  refine ⟨.map (some h.w.heap.size), h.alloc (.map #[] 0) (.map []), by simp [Instr.makeMap, HS.alloc], ?_, rfl, rfl, hext, OK.alloc ok ?_⟩
  · simp only [R]
    refine ⟨by simp [HS.alloc], rfl, fun es ho => ?_⟩
    rw [alloc_M_new]
  · refine ⟨#[], 0, by rw [alloc_M_new]; exact alloc_new, by simp [RM]⟩
end
end Gv
/-! Ranges over strings. -/
namespace Gv
open Go
set_option linter.unusedVariables false

def decodeAt (at' : Nat → Nat) (size i : Nat) : Nat × Nat :=
  let cont (k : Nat) : Bool := i + k < size && at' (i + k) / 64 == 2
  let b0 := at' (i + 0)
  if b0 < 0x80 then (b0, 1)
  else if b0 / 32 == 6 && cont 1 then
    let c := (b0 % 32) * 64 + at' (i + 1) % 64
    if c ≥ 0x80 then (c, 2) else (Utf8.runeError, 1)
  else if b0 / 16 == 14 && cont 1 && cont 2 then
    let c := (b0 % 16) * 4096 + (at' (i + 1) % 64) * 64 + at' (i + 2) % 64
    if c ≥ 0x800 && Utf8.valid c then (c, 3) else (Utf8.runeError, 1)
  else if b0 / 8 == 30 && cont 1 && cont 2 && cont 3 then
    let c := (b0 % 8) * 262144 + (at' (i + 1) % 64) * 4096 + (at' (i + 2) % 64) * 64 + at' (i + 3) % 64
    if c ≥ 0x10000 && Utf8.valid c then (c, 4) else (Utf8.runeError, 1)
  else (Utf8.runeError, 1)

theorem decodeAt_eq (b : ByteArray) (i : Nat) : Utf8.decode b i = decodeAt (fun j => (b.get! j).toNat) b.size i := rfl

theorem get!_eq (b : ByteArray) (j : Nat) : (b.get! j).toNat = (b.data.toList.map UInt8.toNat).getD j 0 := by
  have : b.get! j = b.data[j]! := rfl
  rw [this]
  by_cases hj : j < b.data.size
  · rw [getElem!_pos b.data j hj]
    simp only [List.getD, List.getElem?_map, Array.getElem?_toList, Array.getElem?_eq_getElem hj]; rfl
  · rw [getElem!_neg b.data j hj]
    simp [List.getD, List.getElem?_eq_none (show b.data.toList.length ≤ j by simpa using Nat.le_of_not_lt hj)]
    rfl

theorem decode_eq (b : ByteArray) (i : Nat) : Utf8.decode b i = decodeAt (fun j => (b.data.toList.map UInt8.toNat).getD j 0) (b.data.toList.map UInt8.toNat).length i := by
  rw [decodeAt_eq]
  have e1 : (fun j => (b.get! j).toNat) = (fun j => (b.data.toList.map UInt8.toNat).getD j 0) := funext (get!_eq b)
  rw [e1]
  congr 1
  simp

section
variable {C : Cx} {h : HS} {P : Program}

theorem range_sound (ok : OK C h) {t : TypeId} (hu : P.underlying t = some .string) {s : List Nat} {u : Value} (hr : R C h (.str s) u) :
    Yields C P h (Instr.range t u) (.it h.next) (h.own.put h.next (some (.it s 0))) (h.next + 1) := by
  simp only [R] at hr
  obtain ⟨b, rfl, rfl, hb⟩ := hr
  have hext := Ext.alloc ok (.stringIter b 0) (.it (b.data.toList.map UInt8.toNat) 0)
  refine ⟨.pointer (some ⟨h.w.heap.size, 0, none⟩), h.alloc (.stringIter b 0) (.it (b.data.toList.map UInt8.toNat) 0), by simp [Instr.range, run_underlying hu, HS.alloc], ?_, rfl, rfl, hext, OK.alloc ok ?_⟩
  · simp only [R]
    refine ⟨by simp [HS.alloc], rfl, fun es pos ho => ?_⟩
    rw [alloc_M_new]
  · exact ⟨b, by rw [alloc_M_new]; exact alloc_new, rfl, hb⟩

def dnext (own : Tr Obj) (x : D) : Option (D × Tr Obj) :=
  match x with
  | .it id =>
    match own.get id with
    | some (.it s pos) =>
      if pos < s.length then
        let (c, w) := decodeAt (fun j => s.getD j 0) s.length pos
        some (.tup [.v (.bool true), .v (.int .i64 pos), .v (.int .i32 c)], own.put id (some (.it s (pos + w))))
      else some (.tup [.v (.bool false)], own)
    | _ => none
  | _ => none

theorem next_sound (ok : OK C h) {ty : TypeId} {x d : D} {u : Value} (hr : R C h x u) {own' : Tr Obj} (hd : dnext h.own x = some (d, own')) : Yields C P h (Instr.next u true ty) d own' h.next := by
  cases x with
  | it id =>
    simp only [dnext] at hd
    split at hd
    · rename_i s pos ho
      simp only [R] at hr
      have := hr.2.2 _ _ ho
      subst this
      obtain ⟨_, hM, _, b, hb, rfl, hbt⟩ := ok.id id _ ho
      have hget : (getObj (h.M id).1).run P h.w = .ok (.stringIter b pos) h.w := by simp [getObj, Sem.run, hb]
      have hset : ∀ o : Go.Obj, (setObj (h.M id).1 o).run P h.w = .ok () { h.w with heap := h.w.heap.setIfInBounds (h.M id).1 o } := by intro o; simp [setObj, Sem.run, hb]
      have hsz : b.size = (b.data.toList.map UInt8.toNat).length := by simp
      split at hd
      · rename_i hp
        have hp' : pos < b.size := by rw [hsz]; exact hp
        simp only [Option.some.injEq, Prod.mk.injEq] at hd
        obtain ⟨rfl, rfl⟩ := hd
        have hext : Ext h (h.setObj id (.stringIter b (pos + (Utf8.decode b pos).2)) (.it (b.data.toList.map UInt8.toNat) (pos + (Utf8.decode b pos).2))) :=
          Ext.setObj ok ho _ (by simp [Obj.sim]) (by intro c e f hc; rw [hb] at hc; cases hc)
        refine ⟨.tuple #[.bool true, .int .i64 pos, .int .i32 (Utf8.decode b pos).1], h.setObj id (.stringIter b (pos + (Utf8.decode b pos).2)) (.it (b.data.toList.map UInt8.toNat) (pos + (Utf8.decode b pos).2)), ?_, ?_, ?_, rfl, hext, OK.setObj ok ho hext ⟨b, setObj_self hM, rfl, hbt⟩⟩
        · simp only [Instr.next, Sem.run_bind, hget, Result.andThen_ok, hp', if_true, hset, Sem.run_pure, goInt, HS.setObj]
        · simp only [R]
          refine ⟨_, rfl, RL.cons (by simp) (by simp [R]) (RL.cons (by simp) (by simp [R]) (RL.cons (by simp) ?_ RL.nil))⟩
          rw [← decode_eq]; simp [R]
        · rw [← decode_eq]; rfl
      · rename_i hp
        have hp' : ¬ pos < b.size := by rw [hsz]; exact hp
        simp only [Option.some.injEq, Prod.mk.injEq] at hd
        obtain ⟨rfl, rfl⟩ := hd
        refine Yields.same ok (v := .tuple #[.bool false]) ?_ ?_
        · simp only [Instr.next, Sem.run_bind, hget, Result.andThen_ok, hp', if_false, Sem.run_pure]
        · simp only [R]
          exact ⟨_, rfl, RL.cons (by simp) (by simp [R]) RL.nil⟩
    · cases hd
  | _ => simp [dnext] at hd
end
end Gv
/-! From the machine's operations to the abstract ones. -/
namespace Gv
open Go
set_option linter.unusedVariables false

/-! ### Constants -/
def ofV1 : Value → Option D
  | .bool b => some (.v (.bool b))
  | .int k n => some (.v (.int k n))
  | .string s => if s.data.toList.length ≤ 2 ^ 20 then some (.str (s.data.toList.map UInt8.toNat)) else none
  | .pointer none => some (.v (.pointer none))
  | .nilFunc => some (.v .nilFunc)
  | .nilIface => some (.v .nilIface)
  | .map none => some (.v (.map none))
  | .slice none 0 0 => some (.sl .nil [])
  | .func (.func f) ⟨[]⟩ ⟨[]⟩ => some (.fn (.func f) [] [])
  | _ => none

def ofVs : List Value → Option (List D)
  | [] => some []
  | v :: vs => match ofV1 v, ofVs vs with | some d, some ds => some (d :: ds) | _, _ => none

def ofV : Value → Option D
  | .agg cs => (ofVs cs.toList).map .agg
  | v => ofV1 v

theorem ofV1_sound {v : Value} {d : D} (hd : ofV1 v = some d) (C : Cx) (h : HS) : R C h d v ∧ v.oneCell' = true := by
  unfold ofV1 at hd
  split at hd
  case h_3 s =>
    split at hd
    · rename_i hl
      simp only [Option.some.injEq] at hd; subst hd
      refine ⟨?_, rfl⟩
      simp only [R]
      exact ⟨s, rfl, rfl, by simp only [List.length_map, top]; omega⟩
    · cases hd
  all_goals first
    | (cases hd; done)
    | (simp only [Option.some.injEq] at hd; subst hd; exact ⟨by simp [R, Hdr.mayNil, RL], rfl⟩)

theorem ofVs_sound : ∀ {vs : List Value} {ds : List D}, ofVs vs = some ds → ∀ (C : Cx) (h : HS), RL C h true ds vs
  | [], ds, hd, C, h => by simp only [ofVs, Option.some.injEq] at hd; subst hd; exact RL.nil
  | v :: vs, ds, hd, C, h => by
    simp only [ofVs] at hd
    split at hd
    · rename_i d ds' h1 h2
      simp only [Option.some.injEq] at hd; subst hd
      obtain ⟨q1, q2⟩ := ofV1_sound h1 C h
      exact RL.cons (fun _ => q2) q1 (ofVs_sound h2 C h)
    · cases hd

theorem ofV_sound {v : Value} {d : D} (hd : ofV v = some d) (C : Cx) (h : HS) : R C h d v := by
  cases v with
  | agg cs =>
    simp only [ofV, Option.map_eq_some_iff] at hd
    obtain ⟨ds, h1, rfl⟩ := hd
    simp only [R]
    exact ⟨cs, rfl, ofVs_sound h1 C h⟩
  | _ => first | exact (ofV1_sound (by simpa only [ofV] using hd) C h).1

/-! ### What the types' table says -/
section
variable {P : Program}

def tagg (P : Program) (t : TypeId) : Option (Option Nat) :=
  match P.underlying t with
  | some (.struct _) | some (.array _ _) => (P.info? t).map fun i => some i.size
  | some _ => some none
  | none => none

theorem tagg_sound {t : TypeId} {n : Option Nat} (ht : tagg P t = some n) : (∀ w, (isAgg t).run P w = Result.ok n.isSome w) ∧ (∀ k, n = some k → ∀ w, (Go.sizeOf t).run P w = Result.ok k w) := by
  unfold tagg at ht
  split at ht
  · rename_i fs hu
    simp only [Option.map_eq_some_iff] at ht
    obtain ⟨i, hi, rfl⟩ := ht
    exact ⟨fun w => by simp [isAgg, run_underlying hu], fun k hk w => by simp only [Option.some.injEq] at hk; subst hk; simp [Go.sizeOf, typeInfo, hi]⟩
  · rename_i n' e hu
    simp only [Option.map_eq_some_iff] at ht
    obtain ⟨i, hi, rfl⟩ := ht
    exact ⟨fun w => by simp [isAgg, run_underlying hu], fun k hk w => by simp only [Option.some.injEq] at hk; subst hk; simp [Go.sizeOf, typeInfo, hi]⟩
  · rename_i d hn1 hn2 hu
    simp only [Option.some.injEq] at ht; subst ht
    exact ⟨isAgg_plain hu (by cases d <;> simp_all), fun k hk => by cases hk⟩
  · cases ht

def tsize (P : Program) (t : TypeId) : Option Nat := (P.info? t).map (·.size)
theorem tsize_sound {t : TypeId} {n : Nat} (ht : tsize P t = some n) : ∀ w, (Go.sizeOf t).run P w = Result.ok n w := by
  simp only [tsize, Option.map_eq_some_iff] at ht
  obtain ⟨i, hi, rfl⟩ := ht
  intro w; simp [Go.sizeOf, typeInfo, hi]

def tzero (P : Program) (t : TypeId) : Option (D × Value) :=
  match P.info? t with
  | some i => match i.zero with
    | some z => (ofV z).map fun d => (d, z)
    | none => none
  | none => none
theorem tzero_sound {t : TypeId} {d : D} {z : Value} (ht : tzero P t = some (d, z)) : (∀ w, (zeroValue t).run P w = Result.ok z w) ∧ ∀ C h, R C h d z := by
  unfold tzero at ht
  split at ht
  · rename_i i hi
    split at ht
    · rename_i z' hz
      simp only [Option.map_eq_some_iff, Prod.mk.injEq] at ht
      obtain ⟨d', h1, rfl, rfl⟩ := ht
      exact ⟨fun w => by simp [zeroValue, typeInfo, hi, hz], fun C h => ofV_sound h1 C h⟩
    · cases ht
  · cases ht

def telem (P : Program) (e : TypeId) : Option (Nat × Nat × D) :=
  match P.info? e with
  | some i => match i.zero with
    | some z => match ofV z with
      | some d => if 0 < i.size ∧ z.cells.size = i.size ∧ d.cells?.isSome then some (i.size, i.bytes, d) else none
      | none => none
    | none => none
  | none => none
theorem telem_sound {e : TypeId} {size bytes : Nat} {z : D} (ht : telem P e = some (size, bytes, z)) : ElemOK P e size bytes z := by
  unfold telem at ht
  split at ht
  · rename_i i hi
    split at ht
    · rename_i zv hz
      split at ht
      · rename_i d hd
        split at ht
        · rename_i hc
          simp only [Option.some.injEq, Prod.mk.injEq] at ht
          obtain ⟨rfl, rfl, rfl⟩ := ht
          exact ⟨⟨i, hi, rfl, rfl, zv, hz, fun C h => ofV_sound hd C h, hc.2.1⟩, hc.1, Option.isSome_iff_exists.1 hc.2.2⟩
        · cases ht
      · cases ht
    · cases ht
  · cases ht

def sliceOf (P : Program) (t : TypeId) : Option TypeId := match P.underlying t with | some (.slice e) => some e | _ => none
theorem sliceOf_sound {t e : TypeId} (ht : sliceOf P t = some e) : P.underlying t = some (.slice e) := by
  unfold sliceOf at ht
  split at ht
  · simp only [Option.some.injEq] at ht; subst ht; assumption
  · cases ht

/-! ### Operands and operations -/
abbrev Glob := Nat → Option (List D)

def copd (G : Glob) : Operand → Option Opd
  | .tmp t => some (.t t)
  | .const v => (ofV v).map .k
  | .global g => (G g).map fun cs => .k (.ep cs)
  | .func f => some (.k (.fn (.func f) [] []))

def copds (G : Glob) : List Operand → Option (List Opd)
  | [] => some []
  | x :: xs => match copd G x, copds G xs with | some y, some ys => some (y :: ys) | _, _ => none

def copdo (G : Glob) : Option Operand → Option (Option Opd)
  | none => some none
  | some x => (copd G x).map some

/-- The parts of a struct's value: place, size, operand. -/
def cparts (P : Program) (G : Glob) (fields : Array Field) : List (Nat × Operand) → Option (List (Nat × Nat × Opd))
  | [] => some []
  | (i, x) :: rest =>
    match fields[i]?, copd G x, cparts P G fields rest with
    | some f, some y, some ys => (tsize P f.type).map fun n => (f.offset, n, y) :: ys
    | _, _, _ => none

def cpartsA (G : Glob) (size : Nat) : List (Nat × Operand) → Option (List (Nat × Nat × Opd))
  | [] => some []
  | (i, x) :: rest =>
    match copd G x, cpartsA G size rest with
    | some y, some ys => some ((i * size, size, y) :: ys)
    | _, _ => none

def cpartsS (G : Glob) : List (Nat × Operand) → Option (List (Nat × Opd))
  | [] => some []
  | (i, x) :: rest =>
    match copd G x, cpartsS G rest with
    | some y, some ys => some ((i, y) :: ys)
    | _, _ => none

def fieldSizes (P : Program) (fields : Array Field) : Bool := fields.all fun f => (tsize P f.type).isSome

def cbin (P : Program) (t : TypeId) (y : Operand) : BinOp → Option BK
  | .eql | .neq =>
    match P.underlying t with
    | some (.int _) => some .sc
    | some .bool => some .bl
    | some .string => some .str
    | some (.struct fs) =>
      if P.stoodInHeld t || P.eqGuardType P.depth t then none
      else if (P.fieldsOf t).size = fs.size then (plainFields P 0 (P.fieldsOf t).toList).map .deep else none
    | some (.slice _) => match y with | .const (.slice none 0 0) => some .nily | _ => none
    | some (.pointer e) => match y with | .const (.pointer none) => some .nily | _ => (match tsize P e with | some (_ + 1) => some .ptr | _ => none)
    | some (.map _ _) => match y with | .const (.map none) => some .nily | _ => none
    | some (.func ..) => match y with | .const .nilFunc => some .nily | _ => none
    | some (.interface _) => match y with | .const .nilIface => some .nily | _ => none
    | _ => none
  | _ =>
    match P.underlying t with
    | some (.int _) => some .sc
    | some .string => some .str
    | _ => none

def ckey (P : Program) (t : TypeId) : Option BK :=
  match P.underlying t with
  | some (.int _) => some .sc
  | some .string => some .str
  | some (.struct fs) => if P.stoodInHeld t then none else (plainFields P 0 (P.fieldsOf t).toList).map .deep
  | _ => none

end
end Gv
/-! What an operation does, abstractly; and that it does so. -/
namespace Gv
open Go
set_option linter.unusedVariables false

def b1 {α γ : Type} (x : Option α) (f : α → Option γ) : Option γ := match x with | some a => f a | none => none
def b2 {α β γ : Type} (x : Option α) (y : Option β) (f : α → β → Option γ) : Option γ := match x, y with | some a, some b => f a b | _, _ => none
theorem some1 {α γ : Type} {x : Option α} {f : α → Option γ} {z : γ} (h : b1 x f = some z) : ∃ a, x = some a ∧ f a = some z := by
  cases x with
  | none => cases h
  | some a => exact ⟨a, rfl, h⟩
theorem some2 {α β γ : Type} {x : Option α} {y : Option β} {f : α → β → Option γ} {z : γ} (h : b2 x y f = some z) : ∃ a b, x = some a ∧ y = some b ∧ f a b = some z := by
  cases x with
  | none => cases h
  | some a => cases y with
    | none => cases h
    | some b => exact ⟨a, b, rfl, rfl, h⟩

def ev (E : Tr D) : Opd → Option D
  | .t n => E.get n
  | .k d => some d
def evs (E : Tr D) : List Opd → Option (List D)
  | [] => some []
  | x :: xs => b2 (ev E x) (evs E xs) fun d ds => some (d :: ds)
def evp (E : Tr D) : List (Nat × Nat × Opd) → Option (List (Nat × Nat × D))
  | [] => some []
  | (a, b, x) :: xs => b2 (ev E x) (evp E xs) fun d ds => some ((a, b, d) :: ds)
def evq (E : Tr D) : List (Nat × Opd) → Option (List (Nat × D))
  | [] => some []
  | (a, x) :: xs => b2 (ev E x) (evq E xs) fun d ds => some ((a, d) :: ds)
def evo (E : Tr D) : Option Opd → Option (Option D)
  | none => some none
  | some x => (ev E x).map some

/-! ### From the machine's operations -/
section
variable (P : Program) (G : Glob)

def celem (e : TypeId) : Option Nat := tsize P e

def cconv (src dst : TypeId) : Option CK :=
  match P.underlying src, P.underlying dst with
  | some .string, some .string => some .same
  | some .string, _ => none
  | some (.slice e), some .string => match P.underlying e with | some (.int .u8) => some .bytes | _ => none
  | some (.int _), some (.int k) => some (.int k)
  | some (.pointer t), some .unsafePointer => match tsize P t with | some (n + 1) => some (.ptr t (n + 1)) | _ => none
  | some .unsafePointer, some (.pointer t) => match tsize P t with | some (n + 1) => some (.ptr t (n + 1)) | _ => none
  | _, _ => none

def cdesc (t : TypeId) : Option TypeDesc :=
  match P.underlying t with
  | some (.interface _) => none
  | d => d

def cop (o : Oper) : Option IOp :=
  match o.op with
  | .move x => (copd G x).map .mov
  | .assign x => (copd G x).map .mov
  | .pick c a b => b1 (copd G c) fun c => b1 (copd G a) fun a => b1 (copd G b) fun b => some (.pick c a b)
  | .alloc t => match tzero P t with | some (d, _) => if d.cells?.isSome then some (.alloc t d) else none | none => none
  | .box t x => (copd G x).map (.box t)
  | .build t ps =>
    match tzero P t with
    | some (.agg z, _) =>
      match P.underlying t with
      | some (.struct fs) => if fieldSizes P fs then (cparts P G fs ps.toList).map (.build z) else none
      | some (.array _ e) => b1 (tsize P e) fun n => (cpartsA G n ps.toList).map (.build z)
      | _ => none
    | _ => none
  | .buildSlice t n ps =>
    match sliceOf P t with
    | some e => match telem P e, cpartsS G ps.toList with | some (size, _, z), some qs => some (.bslice size n z qs) | _, _ => none
    | none => none
  | .load t a => b2 (tagg P t) (copd G a) fun n a => some (.load n a)
  | .store t a x => b1 (tsize P t) fun n => b1 (copd G a) fun a => b1 (copd G x) fun x => some (.store n a x)
  | .nilCheck x => (copd G x).map .nilck
  | .binOp op t x y _ => b1 (cbin P t y op) fun k => b1 (copd G x) fun x => b1 (copd G y) fun y => some (.bin op k x y)
  | .unOp op _ x => (copd G x).map (.un op)
  | .convert s d x => b2 (cconv P s d) (copd G x) fun k x => some (.conv k x)
  | .makeFunc fn first capt => b2 (copds G first.toList) (copds G capt.toList) fun f c => some (.mkfn fn f c)
  | .makeMap _ none => some .mkmap
  | .makeSlice t l c =>
    match sliceOf P t with
    | some e => match telem P e, copd G l, copd G c with | some (size, bytes, z), some l, some c => some (.mkslice e size bytes z l c) | _, _, _ => none
    | none => none
  | .slice t x lo hi mx =>
    if mx.isSome = true ∧ hi.isSome = false then none else
    match P.underlying t, copd G x, copdo G lo, copdo G hi, copdo G mx with
    | some .string, some x, some lo, some hi, some mx => some (.slice .str x lo hi mx)
    | some (.slice e), some x, some lo, some hi, some mx => (tsize P e).map fun n => .slice (.sl n) x lo hi mx
    | some (.array n e), some x, some lo, some hi, some mx => (tsize P e).map fun s => .slice (.arr n s) x lo hi mx
    | _, _, _, _, _ => none
  | .fieldAddr s x fi =>
    match P.underlying s, copd G x with
    | some (.struct fs), some x =>
      match fs[fi]? with
      | some f => match tsize P f.type with | some (_ + 1) => some (.fadr f.offset x) | _ => none
      | none => none
    | _, _ => none
  | .field t x fi =>
    match P.underlying t, copd G x with
    | some (.struct fs), some x =>
      match fs[fi]? with
      | some f => (tagg P f.type).map fun n => .fld f.offset n x
      | none => none
    | _, _ => none
  | .indexAddr t x i =>
    match P.underlying t, copd G x, copd G i with
    | some (.slice e), some x, some i => (tsize P e).map fun n => .iadr (.sl n) x i
    | some (.array n e), some x, some i => (tsize P e).map fun s => .iadr (.arr n s) x i
    | _, _, _ => none
  | .index t x i =>
    match P.underlying t, copd G x, copd G i with
    | some .string, some x, some i => some (.idx .str x i)
    | some (.array n e), some x, some i => b2 (tsize P e) (tagg P e) fun s b => some (.idx (.arr n s b.isSome) x i)
    | _, _, _ => none
  | .lookup t m i ok =>
    match P.underlying t with
    | some (.map kt e) =>
      match ckey P kt, tzero P e, copd G m, copd G i with
      | some k, some (z, _), some m, some i => some (.lookup k z ok m i)
      | _, _, _, _ => none
    | _ => none
  | .mapUpdate t m i x | .insert t m i x =>
    match P.underlying t with
    | some (.map kt _) =>
      match ckey P kt, copd G m, copd G i, copd G x with
      | some k, some m, some i, some x => some (.mupd k m i x)
      | _, _, _, _ => none
    | _ => none
  | .range t x => match P.underlying t with | some .string => (copd G x).map .range | _ => none
  | .next x true => (copd G x).map .next
  | .typeAssert x _ t ok => match cdesc P t, tzero P t, copd G x with | some _, some (z, _), some x => some (.tas t z ok x) | _, _, _ => none
  | .makeInterface t x => b2 (cdesc P t) (copd G x) fun _ x => some (.mkif t x)
  | .extract x i => (copd G x).map (.ext i)
  | .call ⟨.builtin .append, ⟨[s, x]⟩, ⟨[sT, xT]⟩⟩ =>
    match sliceOf P sT, P.underlying xT, copd G s, copd G x with
    | some e, some (.slice _), some s, some x => (telem P e).map fun (size, bytes, z) => .append e size bytes s x
    | some e, some .string, some s, some x => (telem P e).map fun (size, bytes, z) => .append e size bytes s x
    | some e, some (.int _), some s, some x => (telem P e).map fun (size, bytes, z) => .appz e size bytes z s x
    | _, _, _, _ => none
  | .call ⟨.builtin .len, ⟨[x]⟩, ⟨[t]⟩⟩ =>
    match P.underlying t, copd G x with
    | some .string, some x => some (.len true x)
    | some (.slice _), some x => some (.len false x)
    | _, _ => none
  | .call ⟨.builtin .cap, ⟨[x]⟩, ⟨[t]⟩⟩ =>
    match P.underlying t, copd G x with
    | some (.slice _), some x => some (.cap x)
    | _, _ => none
  | .call ⟨.builtin .copy, ⟨[s, x]⟩, ⟨[sT, _]⟩⟩ =>
    match sliceOf P sT, copd G s, copd G x with
    | some e, some s, some x => (tsize P e).map fun size => .copy size s x
    | _, _, _ => none
  | .call ⟨.builtin .unsafeSliceData, ⟨[x]⟩, _⟩ => (copd G x).map .sdata
  | .call ⟨.builtin .unsafeString, ⟨[p, n]⟩, ⟨[pT, _]⟩⟩ =>
    match P.underlying pT, copd G p, copd G n with
    | some (.pointer t), some p, some n => (match P.underlying t, tsize P t with | some (.int .u8), some 1 => some (.ustr t p n) | _, _ => none)
    | _, _, _ => none
  | .call ⟨.builtin .recover, ⟨[]⟩, _⟩ => some .recover
  | .panic x => (copd G x).map .panic
  | .defer ⟨.value f, ⟨[]⟩, _⟩ => (copd G f).map .defer
  | .call ⟨.builtin .max, args, _⟩ => (copds G args.toList).map .maxi
  | .call ⟨.builtin .min, args, _⟩ => (copds G args.toList).map .mini
  | .call ⟨.value (.func f), args, _⟩ => (copds G args.toList).map (.call f)
  | .call ⟨.value f, args, _⟩ => b2 (copd G f) (copds G args.toList) fun f args => some (.callv f args)
  | .call ⟨.invoke r m, args, _⟩ => b2 (copd G r) (copds G args.toList) fun r args => some (.inv r m args)
  | _ => none
end

/-! ### What is computed -/
def nilV : D → Value
  | .sl .nil [] => .slice none 0 0
  | .v x => x
  | _ => .nilFunc

def dnilck (own : Tr Obj) (x : D) : Option D :=
  match x with
  | .ptr id i off => b1 (live own id) fun _ => some x
  | .ep _ => some x
  | .fn (.func _) _ _ => some x
  | _ => none

def dsliceP (own : Tr Obj) (k : SK) (x : D) (lo hi mx : Option D) : Option D :=
  match k, x with
  | .arr _ _, .ptr _ _ _ => none
  | k, x => (dslice own k x lo hi mx).map (·.1)

def dconvP (own : Tr Obj) (c : CK) (d : D) : Option D :=
  match c with
  | .same => (match d with | .str s => some (.str s) | _ => none)
  | .ptr ty size =>
    (match d with
     | .v (.pointer none) => some d
     | .ptr id i 0 => (match own.get id with | some (.arr ty' size' xs) => if ty' = ty ∧ size' = size ∧ i < xs.length then some d else none | _ => none)
     | _ => none)
  | c => dconv own c d

def dbinP (own : Tr Obj) (op : BinOp) (k : BK) (dx dy : D) : Option D :=
  match k with
  | .nily => if nilFit (nilV dy) dx then dbin own op .nily dx dy else none
  | .nilx => none
  | .ptr =>
    (match dx, dy with
     | .ptr id i o, .ptr id' i' o' => if id = id' ∧ i = i' ∧ o = o' then b1 (live own id) fun _ => (match op with | .eql => some (.v (.bool true)) | .neq => some (.v (.bool false)) | _ => none) else none
     | _, _ => none)
  | k => dbin own op k dx dy

/-- Operations that leave the state as it is. -/
def dpure (own : Tr Obj) (E : Tr D) : IOp → Option D
  | .mov x => ev E x
  | .pick c a b => match ev E c with | some (.v (.bool true)) => ev E a | some (.v (.bool false)) => ev E b | _ => none
  | .build z ps => b1 (evp E ps) fun qs => dbuild z qs
  | .bslice size n z ps => b1 (evq E ps) fun qs => dbslice size n z qs
  | .load n a => b1 (ev E a) fun a => dload own n a
  | .nilck x => b1 (ev E x) fun d => dnilck own d
  | .bin op k x y =>
    b2 (ev E x) (ev E y) fun dx dy => dbinP own op k dx dy
  | .un op x => b1 (ev E x) fun d => dun op d
  | .conv c x => b1 (ev E x) fun d => dconvP own c d
  | .mkfn f first capt => b2 (evs E first) (evs E capt) fun a b => some (.fn f a b)
  | .slice k x lo hi mx =>
    b2 (ev E x) (evo E lo) fun x lo => b2 (evo E hi) (evo E mx) fun hi mx => dsliceP own k x lo hi mx
  | .fadr off x => b1 (ev E x) fun d => dfadr own off d
  | .fld off n x => b1 (ev E x) fun d => dfld off n d
  | .iadr k x i => b2 (ev E x) (ev E i) fun x i => diadr own k x i
  | .idx k x i => b2 (ev E x) (ev E i) fun x i => didx k x i
  | .ext i x => b1 (ev E x) fun d => dext i d
  | .len str x =>
    match ev E x with
    | some (.str s) => if str then dlen (.str s) else none
    | some (.sl hd xs) => if str then none else dlen (.sl hd xs)
    | some (.own id off n cap) => if str then none else (b1 (live own id) fun _ => dlen (.own id off n cap))
    | _ => none
  | .cap x =>
    match ev E x with
    | some (.sl hd xs) => if hd == .nil || hd.exact then some (.v (.int .i64 xs.length)) else none
    | some (.own id _ _ (some c)) => b1 (live own id) fun _ => some (.v (.int .i64 c))
    | _ => none
  | .sdata x =>
    match ev E x with
    | some (.sl .nil []) => some (.v (.pointer none))
    | some (.own id off n _) => (match own.get id with | some (.arr _ 1 _) => if 0 < n then some (.ptr id off 0) else none | _ => none)
    | _ => none
  | .maxi xs => b1 (evs E xs) fun ds => dmax ds
  | .mini xs => b1 (evs E xs) fun ds => dmin ds
  | .mkif t x => (ev E x).map (.iface t)
  | .tas t z ok x => b1 (ev E x) fun d => dtas t z ok d
  | .lookup k z ok m i => b2 (ev E m) (ev E i) fun m i => dlookup own k z ok m i
  | _ => none

/-- An append to the front part of an object: what is behind it is forgotten. -/
def dappIn (own : Tr Obj) (next ty size bytes : Nat) (s x : D) : Option (D × Tr Obj × Nat) :=
  match s with
  | .own id off n _ =>
    match own.get id with
    | some (.arr ty' size' xs) => if off + n < xs.length then dappend (own.put id (some (.arr ty' size' (xs.take (off + n))))) next ty size bytes s x else none
    | _ => none
  | _ => none

def dustr (own : Tr Obj) (next ty m : Nat) : D → Option (D × Tr Obj × Nat)
  | .v (.pointer none) => if m = 0 then some (.str [], own, next) else none
  | .ptr id i 0 =>
    (match own.get id with
     | some (.arr ty' 1 xs) =>
       if ty' = ty ∧ i + m ≤ xs.length ∧ 0 < m ∧ m ≤ 2 ^ 47 then b1 (unbytes ((xs.drop i).take m)) fun ns => some (.str ns, own.put id none, next) else none
     | _ => none)
  | _ => none

/-- Operations that change the state; no calls. -/
def dimp (own : Tr Obj) (next : Nat) (E : Tr D) : IOp → Option (D × Tr Obj × Nat)
  | .alloc ty z => b1 z.cells? fun cs => some (.ptr next 0 0, own.put next (some (.arr ty cs.length [z])), next + 1)
  | .box ty x => b1 (ev E x) fun d => b1 d.cells? fun cs => some (.ptr next 0 0, own.put next (some (.arr ty cs.length [d])), next + 1)
  | .store n a x => b2 (ev E a) (ev E x) fun a x => b1 (dstore own n a x) fun own' => some (.junk, own', next)
  | .mkslice ty size bytes z l c => b2 (ev E l) (ev E c) fun l c => b1 (dmake own next ty size bytes z l c) fun r => some (r.1, r.2, next + 1)
  | .slice k x lo hi mx =>
    b2 (ev E x) (evo E lo) fun x lo => b2 (evo E hi) (evo E mx) fun hi mx => b1 (dslice own k x lo hi mx) fun r => some (r.1, r.2, next)
  | .append ty size bytes s x => b2 (ev E s) (ev E x) fun s x =>
    match dappend own next ty size bytes s x with
    | some r => some r
    | none => dappIn own next ty size bytes s x
  | .appz ty size bytes z s n => b2 (ev E s) (ev E n) fun s n =>
    match s, n with
    | .sl .nil [], .v (.int .i64 n) =>
      if 0 < n ∧ n ≤ 2 ^ 40 ∧ n * bytes ≤ 2 ^ 45 then some (.own next 0 n.toNat none, own.put next (some (.arr ty size (List.replicate n.toNat z))), next + 1) else none
    | _, _ => none
  | .copy size s x => b2 (ev E s) (ev E x) fun s x => b1 (dcopy own size s x) fun r => some (r.1, r.2, next)
  | .ustr ty p n => b2 (ev E p) (ev E n) fun p n => b1 (natOf n) fun m => dustr own next ty m p
  | .mkmap => some (.map next, own.put next (some (.map [])), next + 1)
  | .mupd k m i x => b1 (ev E m) fun m => b1 (ev E i) fun i => b1 (ev E x) fun x => b1 (dmupd own k m i x) fun own' => some (.junk, own', next)
  | .range x => match ev E x with | some (.str s) => some (.it next, own.put next (some (.it s 0)), next + 1) | _ => none
  | .next x => b1 (ev E x) fun d => b1 (dnext own d) fun r => some (r.1, r.2, next)
  | _ => none
end Gv
/-! The evaluator: code, calls; and the compiler. -/
namespace Gv
open Go
set_option linter.unusedVariables false

/-! ### Alike -/
def vbeq : Value → Value → Bool
  | .bool a, .bool b => a == b
  | .int k n, .int k' m => decide (k = k') && decide (n = m)
  | .pointer none, .pointer none => true
  | .nilFunc, .nilFunc => true
  | .nilIface, .nilIface => true
  | .map none, .map none => true
  | _, _ => false
theorem vbeq_eq {a b : Value} (h : vbeq a b = true) : a = b := by
  unfold vbeq at h
  split at h <;> simp_all

mutual
def D.beq : D → D → Bool
  | .junk, .junk => true
  | .v x, .v y => vbeq x y
  | .str s, .str t => decide (s = t)
  | .sl h xs, .sl h' ys => decide (h = h') && D.beqs xs ys
  | .own i o n c, .own i' o' n' c' => decide (i = i') && decide (o = o') && decide (n = n') && decide (c = c')
  | .ptr i j o, .ptr i' j' o' => decide (i = i') && decide (j = j') && decide (o = o')
  | .ep xs, .ep ys => D.beqs xs ys
  | .fn f a c, .fn f' a' c' => decide (f = f') && D.beqs a a' && D.beqs c c'
  | .iface t d, .iface t' d' => decide (t = t') && D.beq d d'
  | .agg xs, .agg ys => D.beqs xs ys
  | .tup xs, .tup ys => D.beqs xs ys
  | .map i, .map j => decide (i = j)
  | .it i, .it j => decide (i = j)
  | .yl i, .yl j => decide (i = j)
  | _, _ => false
def D.beqs : List D → List D → Bool
  | [], [] => true
  | x :: xs, y :: ys => D.beq x y && D.beqs xs ys
  | _, _ => false
end

mutual
theorem D.beq_eq : ∀ {a b : D}, D.beq a b = true → a = b
  | .junk, b, h => by cases b <;> simp [D.beq] at h ⊢
  | .v x, b, h => by cases b <;> simp [D.beq] at h; exact congrArg _ (vbeq_eq h)
  | .str s, b, h => by cases b <;> simp [D.beq] at h; simp [h]
  | .sl hd xs, b, h => by cases b <;> simp [D.beq] at h; rw [h.1, D.beqs_eq h.2]
  | .own i o n c, b, h => by cases b <;> simp [D.beq] at h; simp [h]
  | .ptr i j o, b, h => by cases b <;> simp [D.beq] at h; simp [h]
  | .ep xs, b, h => by cases b <;> simp [D.beq] at h; rw [D.beqs_eq h]
  | .fn f x y, b, h => by cases b <;> simp [D.beq] at h; rw [h.1.1, D.beqs_eq h.1.2, D.beqs_eq h.2]
  | .iface t d, b, h => by cases b <;> simp [D.beq] at h; rw [h.1, D.beq_eq h.2]
  | .agg xs, b, h => by cases b <;> simp [D.beq] at h; rw [D.beqs_eq h]
  | .tup xs, b, h => by cases b <;> simp [D.beq] at h; rw [D.beqs_eq h]
  | .map i, b, h => by cases b <;> simp [D.beq] at h; simp [h]
  | .it i, b, h => by cases b <;> simp [D.beq] at h; simp [h]
  | .yl i, b, h => by cases b <;> simp [D.beq] at h; simp [h]
theorem D.beqs_eq : ∀ {a b : List D}, D.beqs a b = true → a = b
  | [], b, h => by cases b <;> simp [D.beqs] at h ⊢
  | x :: xs, b, h => by cases b <;> simp [D.beqs] at h; rw [D.beq_eq h.1, D.beqs_eq h.2]
end

/-! ### States -/
inductive DX where
  | normal
  | exit (id : Nat)
  | goto (l : Nat)
  | ret
  | panic (d : D)

/-- A deferred call; the mark of a range over a function. -/
inductive Dfr where
  | call (g : Nat) (args : List D)
  | mark (id : Nat)
  | rnd         -- a round's frame: it lies at the bottom

/-- No round's frame. -/
def plainD : List Dfr → Bool
  | [] => true
  | .rnd :: _ => false
  | .call _ _ :: ds => plainD ds
  | .mark _ :: ds => plainD ds

structure St where
  E : Tr D
  own : Tr Obj
  next : Nat
  dfs : List Dfr

/-- How a function is left. -/
inductive Out where
  | ok (d : D)
  | pan (d : D)

/-- The mode of a frame on its way out. -/
inductive Md where
  | ret
  | pan (d : D)
  | recd

inductive RK where
  | tmp (t : Nat)
  | cell (t : Nat) (n : Option Nat)

structure FI where
  np : Nat
  nt : Nat
  res : List RK
  body : IC

/-- What stands for a function that has no body. -/
inductive Prim where
  | indexByte
  | index (g : Nat)
  | same
  | overlaps
def dprim (own : Tr Obj) : Prim → List D → Option D
  | .indexByte, [.str s, .v (.int .u8 c)] => if c.toNat < 256 then some (.v (.int .i64 (match s.idxOf? c.toNat with | some i => i | none => -1))) else none
  | .same, [x] => some x
  | _, _ => none

structure Tab where
  prim : Nat → Option Prim
  code : Nat → Option FI
  meth : TypeId → String → Option Nat
  iface : TypeId → Bool

def setDst (E : Tr D) (dst : Option Nat) (d : D) : Tr D := match dst with | some t => E.put t (some d) | none => E

/-- Arguments into the first temporaries. -/
def putArgs : List D → Nat → Tr D → Tr D
  | [], _, E => E
  | d :: ds, k, E => putArgs ds (k + 1) (E.put k (some d))

def dres1 (E : Tr D) (own : Tr Obj) : RK → Option D
  | .tmp t => E.get t
  | .cell t n => b1 (E.get t) fun a => dload own n a
def dress (E : Tr D) (own : Tr Obj) : List RK → Option (List D)
  | [] => some []
  | r :: rs => b2 (dres1 E own r) (dress E own rs) fun d ds => some (d :: ds)
def tupOf : List D → D
  | [d] => d
  | ds => .tup ds

section
variable (T : Tab) (self : IC → St → Option (DX × St))

abbrev Ans := Option (Out × Tr Obj × Nat)

/-- Is the operation done at all? -/
def dguard (E : Tr D) : Option (Nat × Bool) → Option Bool
  | none => some true
  | some (t, b) => match E.get t with | some (.v (.bool b')) => some (b' == b) | some (.tup []) => some false | _ => none

/-- Operations that make no call. -/
def dplain (own : Tr Obj) (next : Nat) (E : Tr D) (op : IOp) : Option (D × Tr Obj × Nat) :=
  match dpure own E op with
  | some d => some (d, own, next)
  | none => dimp own next E op

/-- The operations of a region in which recover may be called. -/
def dopsS : List Ins → Md → St → Option (St × Md)
  | [], m, s => some (s, m)
  | i :: is, m, s =>
    match dguard s.E i.guard with
    | some true =>
      match i.op with
      | .recover =>
        match m with
        | .pan d => dopsS is .recd ⟨setDst s.E i.dst d, s.own, s.next, s.dfs⟩
        | m => dopsS is m ⟨setDst s.E i.dst (.v .nilIface), s.own, s.next, s.dfs⟩
      | op =>
        match dplain s.own s.next s.E op with
        | some (d, own, next) => dopsS is m ⟨setDst s.E i.dst d, own, next, s.dfs⟩
        | none => none
    | some false => dopsS is m ⟨setDst s.E i.dst (.tup []), s.own, s.next, s.dfs⟩
    | none => none

/-- A deferred call's code. -/
def dS : IC → Md → St → Option (DX × St × Md)
  | .seq a b, m, s => match dS a m s with | some (.normal, s', m') => dS b m' s' | r => r
  | .region ops, m, s => match dopsS ops m s with | some (s', m') => some (.normal, s', m') | none => none
  | c, m, s => match self c s with | some (x, s') => some (x, s', m) | none => none

def ddefer (g : Nat) (args : List D) (m : Md) (own : Tr Obj) (next : Nat) : Option (Md × Tr Obj × Nat) :=
  b1 (T.code g) fun fi =>
    if args.length = fi.np then
      match fi.res, dS self fi.body m ⟨putArgs args 0 .nil, own, next, []⟩ with
      | [], some (.normal, ⟨_, own', next', []⟩, m') => some (m', own', next')
      | [], some (.ret, ⟨_, own', next', []⟩, m') => some (m', own', next')
      | _, _ => none
    else none

/-- A frame on its way out. -/
def dleave (E : Tr D) (res : List RK) : List Dfr → Md → Tr Obj → Nat → Ans
  | [], .pan d, own, next => some (.pan d, own, next)
  | [], _, own, next => b1 (dress E own res) fun ds => some (.ok (tupOf ds), own, next)
  | .mark id :: rest, m, own, next => match own.get id with | some .dfr => dleave E res rest m (own.put id none) next | _ => none
  | .rnd :: _, _, _, _ => none
  | .call g args :: rest, m, own, next =>
    match ddefer T self g args m own next with
    | some (m', own', next') => dleave E res rest (match m' with | .recd => .ret | m' => m') own' next'
    | none => none

def dcall (f : Nat) (args : List D) (own : Tr Obj) (next : Nat) : Ans :=
  match T.prim f with
  | some p => b1 (dprim own p args) fun d => some (.ok d, own, next)
  | none =>
  b1 (T.code f) fun fi =>
    if args.length = fi.np then
      match self fi.body ⟨putArgs args 0 .nil, own, next, []⟩ with
      | some (.normal, s) => dleave T self s.E fi.res s.dfs .ret s.own s.next
      | some (.ret, s) => dleave T self s.E fi.res s.dfs .ret s.own s.next
      | some (.panic d, s) => dleave T self s.E fi.res s.dfs (.pan d) s.own s.next
      | _ => none
    else none

/-- The parameters of a round. -/
def putParams : List Nat → List D → Tr D → Option (Tr D)
  | [], [], E => some E
  | p :: ps, d :: ds, E => putParams ps ds (E.put p (some d))
  | _, _, _ => none

/-- yield: a round. -/
def dround (id : Nat) (args : List D) (own : Tr Obj) (next : Nat) : Ans :=
  match own.get id with
  | some (.loop nt env ps assign body .ready none) =>
    if ps.all (fun p => decide (p < nt)) then
    b1 (putParams ps args env) fun E =>
    match self assign ⟨E, own, next, [.rnd]⟩ with
    | some (.normal, ⟨E1, own1, next1, [.rnd]⟩) =>
      match own1.get id with
      | some (.loop nt1 env1 ps1 assign1 body1 .ready none) =>
        match self body ⟨E1, own1.put id (some (.loop nt1 env1 ps1 assign1 body1 .busy none)), next1, [.rnd]⟩ with
        | some (x, ⟨_, own2, next2, [.rnd]⟩) =>
          match own2.get id with
          | some (.loop nt2 env2 ps2 assign2 body2 .busy none) =>
            (match x with
             | .normal => some (.ok (.v (.bool true)), own2.put id (some (.loop nt2 env2 ps2 assign2 body2 .ready none)), next2)
             | .ret => some (.ok (.v (.bool false)), own2.put id (some (.loop nt2 env2 ps2 assign2 body2 .done (some .ret))), next2)
             | .exit k => some (.ok (.v (.bool false)), own2.put id (some (.loop nt2 env2 ps2 assign2 body2 .done (some (.exit k)))), next2)
             | .goto l => some (.ok (.v (.bool false)), own2.put id (some (.loop nt2 env2 ps2 assign2 body2 .done (some (.goto l)))), next2)
             | .panic _ => none)
          | _ => none
        | _ => none
      | _ => none
    | _ => none
    else none
  | _ => none

def ok3 : Option (D × Tr Obj × Nat) → Ans
  | some (d, own, next) => some (.ok d, own, next)
  | none => none

def dstep (own : Tr Obj) (next : Nat) (E : Tr D) : IOp → Ans
  | .call f args => b1 (evs E args) fun ds => dcall T self f ds own next
  | .callv f args => b1 (evs E args) fun ds =>
    match ev E f with
    | some (.fn (.func g) first capt) => dcall T self g (first ++ (ds ++ capt)) own next
    | some (.yl id) => dround self id ds own next
    | some (.fn (.methodOf t name) first _) =>
      if T.iface t then
        (match first ++ ds with
         | .iface t' d :: rest => b1 (T.meth t' name) fun g => dcall T self g (d :: rest) own next
         | _ => none)
      else none
    | _ => none
  | .inv r m args => b1 (evs E args) fun ds =>
    match ev E r with
    | some (.iface t d) => b1 (T.meth t m) fun g => dcall T self g (d :: ds) own next
    | _ => none
  | .panic x => match ev E x with | some (.iface t d) => some (.pan (.iface t d), own, next) | _ => none
  | op => ok3 (dplain own next E op)

/-- One operation: normal, or a panic. -/
def dins (i : Ins) (s : St) : Option (DX × St) :=
  match dguard s.E i.guard with
  | some true =>
    match i.op with
    | .defer f =>
      match ev s.E f with
      | some (.fn (.func g) first capt) => if plainD s.dfs then some (.normal, ⟨setDst s.E i.dst .junk, s.own, s.next, .call g (first ++ capt) :: s.dfs⟩) else none
      | _ => none
    | op =>
      match dstep T self s.own s.next s.E op with
      | some (.ok d, own, next) => some (.normal, ⟨setDst s.E i.dst d, own, next, s.dfs⟩)
      | some (.pan d, own, next) => some (.panic d, ⟨s.E, own, next, s.dfs⟩)
      | none => none
  | some false => some (.normal, ⟨setDst s.E i.dst (.tup []), s.own, s.next, s.dfs⟩)
  | none => none

def dops : List Ins → St → Option (DX × St)
  | [], s => some (.normal, s)
  | i :: is, s => match dins T self i s with | some (.normal, s') => dops is s' | r => r

/-- An operation that only looks, at some state. -/
def dlook (own : Tr Obj) (E : Tr D) (i : Ins) : Option D :=
  match dguard E i.guard with
  | some true => dpure own E i.op
  | some false => some (.tup [])
  | none => none

def stepAt (E : Tr D) (own : Tr Obj) (next : Nat) (i : Ins) : Option (D × Tr Obj × Nat) :=
  match dguard E i.guard with
  | some true => match dstep T self own next E i.op with | some (.ok d, own, next) => some (d, own, next) | _ => none
  | some false => some (.tup [], own, next)
  | none => none

/-- What was done: an operation, the state ahead of it, its answer. -/
structure Rec where
  ins : Ins
  cls : Cls
  E : Tr D
  own : Tr Obj
  next : Nat
  d : D

/-- One operation of a region that draws its order: its answer, and the state behind it. -/
def ddraw1 (i : Ins) (c : Cls) (E : Tr D) (own : Tr Obj) (next : Nat) : Option (D × Tr D × Tr Obj × Nat) :=
  match c with
  | .look _ _ => b1 (dlook own E i) fun d => some (d, setDst E i.dst d, own, next)
  | .step => match stepAt T self E own next i with | some (d, own', next') => some (d, setDst E i.dst d, own', next') | none => none
  | .swap => match stepAt T self E own next i with | some (d, own', next') => some (d, setDst E i.dst d, own', next') | none => none
  | .var => some (.junk, E, own, next)
  | .fill t ty n =>
    match i.op with
    | .store _ _ x => b1 (ev E x) fun d => b1 d.cells? fun cs => if cs.length = n then some (.ptr next 0 0, E.put t (some (.ptr next 0 0)), own.put next (some (.arr ty n [d])), next + 1) else none
    | _ => none

/-- A region in the order of the text. -/
def ddraw : List (Ins × Cls) → Tr D → Tr Obj → Nat → Option (List Rec × Tr D × Tr Obj × Nat)
  | [], E, own, next => some ([], E, own, next)
  | (i, c) :: rest, E, own, next =>
    match ddraw1 T self i c E own next with
    | some (d, E', own', next') =>
      (match ddraw rest E' own' next' with
       | some (rs, f) => some (⟨i, c, E, own, next, d⟩ :: rs, f)
       | none => none)
    | none => none

def Cls.steps : Cls → Bool
  | .step | .swap | .fill _ _ _ => true
  | _ => false

/-- The states, by how many steps were done. -/
def statesOf (rs : List Rec) (own : Tr Obj) (next : Nat) : List (Tr Obj × Nat) :=
  match rs with
  | [] => [(own, next)]
  | r :: rs => if r.cls.steps then (r.own, r.next) :: statesOf rs own next else statesOf rs own next

/-- The state in which a store that may come first has come first; how many steps were done ahead of both. -/
def altOf : List Rec → Nat → Option (Rec × Nat) → Option (Option (Nat × Tr Obj))
  | [], _, _ => some none
  | r :: rs, m, prev =>
    match r.cls with
    | .swap =>
      (match prev, altOf rs (m + 1) none with
       | some (p, k), some none =>
         (match r.ins.op, r.ins.guard, p.ins.op, p.ins.guard with
          | .store n a x, none, .store n0 a0 x0, none =>
            (match ev r.E a, ev r.E x, ev p.E a0 with
             | some (.ptr id i off), some dx, some (.ptr id0 _ _) => if id = id0 then none else b1 (dstore p.own n (.ptr id i off) dx) fun own' => some (some (k, own'))
             | _, _, _ => none)
          | _, _, _, _ => none)
       | _, _ => none)
    | .step => altOf rs (m + 1) (some (r, m))
    | .fill _ _ _ => altOf rs (m + 1) none
    | _ => altOf rs m prev

/-- Does the operation look at no state? -/
def stateless : IOp → Bool
  | .mov _ | .pick .. | .build .. | .bslice .. | .un .. | .mkfn .. | .fld .. | .idx .. | .ext .. | .maxi _ | .mini _ | .mkif .. | .tas .. => true
  | .bin _ k _ _ => (match k with | .sc | .bl | .str => true | _ => false)
  | _ => false

/-- The answer of one that looks, at another state. -/
def lkSame (own : Tr Obj) (k : Rec) : Bool := match dlook own k.E k.ins with | some d => D.beq d k.d | none => false

def lkAt (sts : List (Tr Obj × Nat)) (k : Rec) (lo : Nat) : Nat → Bool
  | 0 => true
  | m + 1 => (match sts[lo + m]? with | some (own, _) => lkSame own k | none => false) && lkAt sts k lo m

def lkOK (sts : List (Tr Obj × Nat)) (alt : Option (Nat × Tr Obj)) (k : Rec) : Bool :=
  match k.cls with
  | .look lo hi =>
    if stateless k.ins.op then true
    else (if lo = hi then true else lkAt sts k lo (hi + 1 - lo)) && (match alt with | some (m, own) => if lo ≤ m + 1 ∧ m + 1 ≤ hi then lkSame own k else true | none => true)
  | _ => true

def stepC : IC → St → Option (DX × St)
  | .skip, s => some (.normal, s)
  | .region ops, s => dops T self ops s
  | .draw ops, s =>
    match ddraw T self ops s.E s.own s.next with
    | some (rs, E, own, next) =>
      (match altOf rs 0 none with
       | some alt => if rs.all (lkOK (statesOf rs own next) alt) then some (.normal, ⟨E, own, next, s.dfs⟩) else none
       | none => none)
    | none => none
  | .seq a b, s => match self a s with | some (.normal, s') => self b s' | r => r
  | .cond c a b, s => match ev s.E c with | some (.v (.bool true)) => self a s | some (.v (.bool false)) => self b s | _ => none
  | .block id b, s => match self b s with | some (.exit id', s') => if id' = id then some (.normal, s') else some (.exit id', s') | r => r
  | .loop b, s => match self b s with | some (.normal, s') => self (.loop b) s' | r => r
  | .exit id, s => some (.exit id, s)
  | .label _, s => some (.normal, s)
  | .goto l, s => some (.goto l, s)
  | .scope l rest b, s => match self b s with | some (.goto l', s') => if l' = l then self (.scope l rest rest) s' else none | r => r
  | .ret, s => some (.ret, s)
  | .rangeF nt f ps assign body, s =>
    if plainD s.dfs then
    match ev s.E f with
    | some (.fn (.func g) first capt) =>
      if (T.prim g).isSome then none else
      match dcall T self g (first ++ (.yl (s.next + 1) :: capt)) ((s.own.put s.next (some .dfr)).put (s.next + 1) (some (.loop nt s.E ps assign body .ready none))) (s.next + 2) with
      | some (.ok _, own, next) =>
        match own.get (s.next + 1) with
        | some (.loop _ _ _ _ _ .ready none) => some (.normal, ⟨s.E, own.put (s.next + 1) none, next, .mark s.next :: s.dfs⟩)
        | some (.loop nt' _ _ _ _ .done (some c)) => if nt' = nt then self c ⟨s.E, own.put (s.next + 1) none, next, .mark s.next :: s.dfs⟩ else none
        | _ => none
      | _ => none
    | _ => none
    else none
  | .bad, _ => none
end

def dcode (T : Tab) (n : Nat) : IC → St → Option (DX × St) := Nat.rec (fun _ _ => none) (fun _ ih => stepC T ih) n
theorem dcode_succ (T : Tab) (n : Nat) : dcode T (n + 1) = stepC T (dcode T n) := rfl
theorem dcode_zero (T : Tab) (c : IC) (s : St) : dcode T 0 c s = none := rfl

/-! ### The compiler -/
section
variable (P : Program) (G : Glob)

def dstOK (nt : Nat) (d : Option Nat) : Bool := match d with | some t => decide (t < nt) | none => true

def cins (nt : Nat) (yielded : Nat → Option (Option Nat)) (o : Oper) : Option Ins :=
  if dstOK nt o.dst then
    match o.guard with
    | none => some ⟨o.dst, (cop P G o).getD .bad, none⟩
    | some (j, b) => match yielded j with | some (some t) => some ⟨o.dst, (cop P G o).getD .bad, some (t, b)⟩ | _ => none
  else none

def dstOf (ops : Array Oper) (j : Nat) : Option (Option Nat) := (ops[j]?).map (·.dst)

def cinss (nt : Nat) (y : Nat → Option (Option Nat)) : List Oper → Option (List Ins)
  | [] => some []
  | o :: os => b2 (cins P G nt y o) (cinss nt y os) fun i is => some (i :: is)
end
end Gv
