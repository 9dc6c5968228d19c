/- Part of the proof of ToolNumbers by an evaluator that is proved sound: A3. No condition of its own. -/
import Derived.Lib.Strings
import Derived.Test.YtbhbbjgaahfinaaGreatDoorA2
set_option linter.unusedVariables false
set_option linter.unusedSimpArgs false
/-! Slice expressions; copy. -/
namespace Gv
open Go
set_option linter.unusedVariables false

section
variable {C : Cx} {h : HS} {P : Program}

/-- A bound that may be left out. -/
def bnd (d : Option D) (dflt : Nat) : Option Nat := match d with | none => some dflt | some d => natOf d
def obnd (d : Option D) : Option (Option Nat) := match d with | none => some none | some d => (natOf d).map some

def sliceHdr (hd : Hdr) (m : Option Nat) (g len : Nat) : Hdr :=
  match m with
  | some m' => if m' = g then (if hd.mayNil then .clip else .full) else (if hd.mayNil then .any else .ok)
  | none => if hd.exact ∧ g = len then hd else (if hd.mayNil then .any else .ok)
theorem sliceHdr_nil {hd : Hdr} {m : Option Nat} {g len : Nat} (hn : hd.mayNil = true) : (sliceHdr hd m g len).mayNil = true := by
  unfold sliceHdr
  cases m with
  | some m' => simp only [hn, if_true]; split <;> rfl
  | none => simp only [hn, if_true]; split <;> first | exact hn | rfl
theorem sliceHdr_ne {hd : Hdr} {m : Option Nat} {g len : Nat} (hn : hd ≠ .nil) : sliceHdr hd m g len ≠ .nil := by
  unfold sliceHdr
  cases m with
  | some m' => simp only; split <;> split <;> simp
  | none =>
    simp only; split
    · exact hn
    · split <;> simp
theorem sliceHdr_exact {hd : Hdr} {m : Option Nat} {g len cap : Nat} (hx : hd.exact = true → cap = len) (he : (sliceHdr hd m g len).exact = true) : m.getD cap = g := by
  unfold sliceHdr at he
  cases m with
  | some m' =>
    simp only at he ⊢
    split at he
    · rename_i hm; simpa using hm
    · split at he <;> simp [Hdr.exact] at he
  | none =>
    simp only at he ⊢
    split at he
    · rename_i hm; simp [hx hm.1, hm.2]
    · split at he <;> simp [Hdr.exact] at he

def dslice (own : Tr Obj) (k : SK) (x : D) (lo hi mx : Option D) : Option (D × Tr Obj) :=
  match k with
  | .str =>
    match x with
    | .str s =>
      match bnd lo 0, bnd hi s.length, mx with
      | some l, some g, none => if l ≤ g ∧ g ≤ s.length then some (.str ((s.drop l).take (g - l)), own) else none
      | _, _, _ => none
    | _ => none
  | .sl size =>
    match x with
    | .sl hd xs =>
      match bnd lo 0, bnd hi xs.length, obnd mx with
      | some l, some g, some m =>
        if l ≤ g ∧ g ≤ xs.length ∧ (∀ m', m = some m' → g ≤ m' ∧ m' ≤ xs.length) ∧ sizeOK size xs then
          match hd with
          | .nil => some (.sl .nil [], own)
          | _ =>
            some (.sl (sliceHdr hd m g xs.length) ((xs.drop l).take (g - l)), own)
        else none
      | _, _, _ => none
    | .own id off n cap =>
      match live own id, bnd lo 0, bnd hi n, obnd mx with
      | some (size', xs), some l, some g, some m =>
        if size' = size ∧ l ≤ g ∧ g ≤ n ∧ off + n ≤ xs.length ∧ (∀ m', m = some m' → g ≤ m' ∧ m' ≤ n) then
          match m with
          | some m' => if m' = l then some (.sl .full [], own) else some (.own id (off + l) (g - l) (some (m' - l)), own)
          | none =>
            match cap with
            | some c => if c = l then some (.sl .full [], own) else some (.own id (off + l) (g - l) (some (c - l)), own)
            | none => if l < g ∨ l = 0 then some (.own id (off + l) (g - l) none, own) else some (.sl .ok [], own)
        else none
      | _, _, _, _ => none
    | _ => none
  | .arr n size =>
    match bnd lo 0, bnd hi n, obnd mx with
    | some l, some g, some m =>
      if size = 1 ∧ l ≤ g ∧ g ≤ n ∧ (∀ m', m = some m' → g ≤ m' ∧ m' ≤ n) ∧ n ≤ top then
        match x with
        | .ptr id 0 0 =>
          match live own id with
          | some (_, [.agg cs]) =>
            if cs.length = n ∧ sizeOK 1 (cs.drop l) then some (.sl (if m.getD n = g then .full else .ok) ((cs.drop l).take (g - l)), own.put id none) else none
          | _ => none
        | .ep cs => if n ≤ cs.length ∧ sizeOK 1 (cs.drop l) then some (.sl (if m.getD n = g then .full else .ok) ((cs.drop l).take (g - l)), own) else none
        | _ => none
      else none
    | _, _, _ => none

theorem natOf_int {d : D} {u : Value} {n : Nat} (hr : R C h d u) (hn : natOf d = some n) (y : Nat) (code : BoundsCode) (hy : n ≤ y) (w : World) : (Instr.sliceBound u y code).run P w = .ok n w := by
  obtain ⟨k, rfl⟩ := natOf_sound hr hn
  have : (0 : Int) ≤ (n : Int) ∧ (n : Int) ≤ (y : Int) := by omega
  simp [Instr.sliceBound, asIntOf, this, hy]

/-- Values for operands that may be left out. -/
def RO (C : Cx) (h : HS) : Option D → Option Value → Prop
  | none, none => True
  | some d, some u => R C h d u
  | _, _ => False

theorem bounds_sound {isS : Bool} {len cap l g : Nat} {m : Option Nat} {lo hi mx : Option D} {ul uh um : Option Value} (h1 : RO C h lo ul) (h2 : RO C h hi uh) (h3 : RO C h mx um)
    (hl : bnd lo 0 = some l) (hg : bnd hi len = some g) (hm : obnd mx = some m) (hlg : l ≤ g) (hgc : g ≤ cap) (hmx : ∀ m', m = some m' → g ≤ m' ∧ m' ≤ cap) (hgiven : mx.isSome = true → hi.isSome = true) (w : World) :
    (Instr.sliceBounds isS len cap ul uh um).run P w = .ok (l, g, m.getD cap) w := by
  unfold Instr.sliceBounds
  cases mx with
  | none =>
    simp only [obnd, Option.some.injEq] at hm
    subst hm
    cases um with
    | some _ => simp [RO] at h3
    | none =>
    cases hi with
    | none =>
      cases uh with
      | some _ => simp [RO] at h2
      | none =>
      simp only [bnd, Option.some.injEq] at hg
      subst hg
      cases lo with
      | none =>
        cases ul with
        | some _ => simp [RO] at h1
        | none => simp only [bnd, Option.some.injEq] at hl; subst hl; simp
      | some dl =>
        cases ul with
        | none => simp [RO] at h1
        | some u1 => simp only [bnd] at hl; simp [natOf_int (P := P) h1 hl _ _ hlg]
    | some dh =>
      cases uh with
      | none => simp [RO] at h2
      | some u2 =>
      simp only [bnd] at hg
      cases lo with
      | none =>
        cases ul with
        | some _ => simp [RO] at h1
        | none => simp only [bnd, Option.some.injEq] at hl; subst hl; simp [natOf_int (P := P) h2 hg _ _ hgc]
      | some dl =>
        cases ul with
        | none => simp [RO] at h1
        | some u1 => simp only [bnd] at hl; simp [natOf_int (P := P) h1 hl _ _ hlg, natOf_int (P := P) h2 hg _ _ hgc]
  | some dm =>
    cases um with
    | none => simp [RO] at h3
    | some u3 =>
    simp only [obnd, Option.map_eq_some_iff] at hm
    obtain ⟨m', hm', rfl⟩ := hm
    obtain ⟨q1, q2⟩ := hmx m' rfl
    cases hi with
    | none => simp at hgiven
    | some dh =>
      cases uh with
      | none => simp [RO] at h2
      | some u2 =>
      simp only [bnd] at hg
      cases lo with
      | none =>
        cases ul with
        | some _ => simp [RO] at h1
        | none => simp only [bnd, Option.some.injEq] at hl; subst hl; simp [natOf_int (P := P) h2 hg _ _ q1, natOf_int (P := P) h3 hm' _ _ q2]
      | some dl =>
        cases ul with
        | none => simp [RO] at h1
        | some u1 => simp only [bnd] at hl; simp [natOf_int (P := P) h1 hl _ _ hlg, natOf_int (P := P) h2 hg _ _ q1, natOf_int (P := P) h3 hm' _ _ q2]

def SKOK (P : Program) (t : TypeId) : SK → Prop
  | .str => P.underlying t = some .string
  | .sl size => ∃ e, P.underlying t = some (.slice e) ∧ (∀ w, (Go.sizeOf e).run P w = Result.ok size w)
  | .arr n size => ∃ e, P.underlying t = some (.array n e) ∧ (∀ w, (Go.sizeOf e).run P w = Result.ok size w)

/-- A slice of frozen cells. -/
theorem R_sl_of {hd : Hdr} {xs : List D} {b off cap size : Nat} {cs : List Value} (hne : hd ≠ .nil) (hcap : xs.length ≤ cap) (hex : hd.exact = true → cap = xs.length) (hb : xs.length ≤ top) (hst : xs ≠ [] → stable C h b)
    (hc : cellsAt h.w b off cs) (hr : RE C h size xs cs) : R C h (.sl hd xs) (.slice (some ⟨b, off, none⟩) xs.length cap) := by
  simp only [R]
  exact .inr ⟨hne, b, off, cap, size, cs, rfl, hcap, hex, hb, hst, hc, hr⟩
theorem cellsAt.drop {w : World} {b off : Nat} {cs : List Value} (hc : cellsAt w b off cs) (k : Nat) : cellsAt w b (off + k) (cs.drop k) := by
  intro j hj
  simp only [List.getElem_drop]
  rw [Nat.add_assoc]
  exact hc (k + j) (by simp at hj; omega)
theorem cellsAt.take {w : World} {b off : Nat} {cs : List Value} (hc : cellsAt w b off cs) (k : Nat) : cellsAt w b off (cs.take k) := by
  intro j hj
  simp only [List.getElem_take]
  exact hc j (by simp at hj; omega)
theorem cellsAt.nil {w : World} {b off : Nat} : cellsAt w b off [] := by intro k hk; simp at hk

theorem RL.toRE1 : ∀ {ds : List D} {cs : List Value}, RL C h true ds cs → RE C h 1 ds cs
  | [], cs, hr => by simpa [RL, RE] using hr
  | d :: ds, cs, hr => by
    obtain ⟨u, rest, rfl, h1, h2, h3⟩ := hr.cons_inv
    have hu := cells_of_one (h1 rfl)
    have := RE.cons (size := 1) (d := d) (u := u) (by rw [hu]; rfl) (by intro c hc; rw [hu] at hc; simp at hc; subst hc; exact h1 rfl) h2 (RL.toRE1 h3)
    rw [hu] at this
    simpa using this

theorem dslice_sound (ok : OK C h) {t : TypeId} {k : SK} (ht : SKOK P t k) {x : D} {lo hi mx : Option D} {ux : Value} {ul uh um : Option Value} (hx : R C h x ux) (h1 : RO C h lo ul) (h2 : RO C h hi uh) (h3 : RO C h mx um)
    (hgiven : mx.isSome = true → hi.isSome = true) {d : D} {own' : Tr Obj} (hd : dslice h.own k x lo hi mx = some (d, own')) : Yields C P h (Instr.sliceAt t ux ul uh um) d own' h.next := by
  cases k with
  | str =>
    simp only [SKOK] at ht
    cases x with
    | str s =>
      simp only [dslice] at hd
      cases hl : bnd lo 0 with
      | none => simp [hl] at hd
      | some l =>
      cases hg : bnd hi s.length with
      | none => simp [hl, hg] at hd
      | some g =>
      cases mx with
      | some _ => simp [hl, hg] at hd
      | none =>
      simp only [hl, hg] at hd
      · split at hd
        · rename_i hc
          simp only [Option.some.injEq, Prod.mk.injEq] at hd
          obtain ⟨rfl, rfl⟩ := hd
          cases um with
          | some _ => simp [RO] at h3
          | none =>
          simp only [R] at hx
          obtain ⟨b, rfl, rfl, hb⟩ := hx
          have hbs := bounds_sound (P := P) (isS := false) (len := b.size) (cap := b.size) h1 h2 h3 hl (by simpa using hg) rfl hc.1 (by simpa using hc.2) (by simp) hgiven h.w
          refine Yields.same ok (v := .string (b.extract l g)) ?_ ?_
          · simp [Instr.sliceAt, Instr.slice, run_underlying ht, hbs]
          · simp only [R]
            refine ⟨_, rfl, ?_, ?_⟩
            · rw [Lib.extract_data]; simp [List.map_take, List.map_drop]
            · simp at hb ⊢; omega
        · cases hd
    | _ => simp [dslice] at hd
  | sl size =>
    obtain ⟨e, hu, hsz⟩ := ht
    cases x with
    | sl hd' xs =>
      simp only [dslice] at hd
      split at hd
      · rename_i l g m hl hg hm
        split at hd
        · rename_i hc
          obtain ⟨c1, c2, c3, c4⟩ := hc
          have hx0 := hx
          simp only [R] at hx
          rcases hx with ⟨rfl, rfl, hnil⟩ | ⟨hne, b, off, cap, size', cs, rfl, h4, h5, h6, h7, h8, h9⟩
          · -- nil
            have hg0 : g = 0 := by simpa using c2
            subst hg0
            have hl0 : l = 0 := by omega
            subst hl0
            have hbs := bounds_sound (P := P) (isS := true) (len := 0) (cap := 0) h1 h2 h3 hl (by simpa using hg) hm c1 c2 (by simpa using c3) hgiven h.w
            have hm0 : m.getD 0 = 0 := by
              cases m with
              | none => rfl
              | some m' => have := (c3 m' rfl).2; simpa using this
            have hrun : (Instr.sliceAt t (.slice none 0 0) ul uh um).run P h.w = .ok (.slice none 0 0) h.w := by
              simp [Instr.sliceAt, Instr.slice, run_underlying hu, hbs, hm0, hsz]
            have hdd : ∃ hd2 : Hdr, d = .sl hd2 [] ∧ hd2.mayNil = true ∧ own' = h.own := by
              have gen : ∀ hd3 : Hdr, hd3.mayNil = true → some (D.sl (sliceHdr hd3 m 0 0) (List.take (0 - 0) (List.drop 0 [])), h.own) = some (d, own') → ∃ hd2 : Hdr, d = .sl hd2 [] ∧ hd2.mayNil = true ∧ own' = h.own := by
                intro hd3 hm3 he
                simp only [Option.some.injEq, Prod.mk.injEq] at he
                exact ⟨sliceHdr hd3 m 0 0, by rw [← he.1]; simp, sliceHdr_nil hm3, he.2.symm⟩
              cases hd' with
              | any => exact gen _ rfl hd
              | clip => exact gen _ rfl hd
              | ok => simp [Hdr.mayNil] at hnil
              | full => simp [Hdr.mayNil] at hnil
              | nil =>
                simp only [Option.some.injEq, Prod.mk.injEq] at hd
                exact ⟨.nil, hd.1.symm, rfl, hd.2.symm⟩
            obtain ⟨hd2, rfl, hmn, rfl⟩ := hdd
            exact Yields.same ok hrun (by simp only [R]; exact .inl ⟨trivial, trivial, hmn⟩)
          · have h9' := h9.resize c4
            have hcl := h9'.length
            have hbs := bounds_sound (P := P) (isS := true) (len := xs.length) (cap := cap) h1 h2 h3 hl hg hm c1 (by omega) (fun m' hm' => by have := c3 m' hm'; omega) hgiven h.w
            -- what comes out
            have hxl : ((xs.drop l).take (g - l)).length = g - l := by simp; omega
            have hrun : (Instr.sliceAt t (.slice (some ⟨b, off, none⟩) xs.length cap) ul uh um).run P h.w = .ok (.slice (some ⟨b, (if m.getD cap = l then off else off + l * size), none⟩) (g - l) (m.getD cap - l)) h.w := by
              simp only [Instr.sliceAt, Instr.slice, Sem.run_bind, run_underlying hu, Result.andThen_ok, hbs, hsz, Sem.run_pure]
              split <;> simp [add_plain]
            have main : ∀ hd2 : Hdr, hd2 ≠ .nil → (hd2.exact = true → m.getD cap = g) → R C h (.sl hd2 ((xs.drop l).take (g - l))) (.slice (some ⟨b, (if m.getD cap = l then off else off + l * size), none⟩) (g - l) (m.getD cap - l)) := by
              intro hd2 hne2 hex2
              have hmc : g ≤ m.getD cap := by
                cases m with
                | none => simp; omega
                | some m' => exact (c3 m' rfl).1
              have key : ∃ cs2, cellsAt h.w b (if m.getD cap = l then off else off + l * size) cs2 ∧ RE C h size ((xs.drop l).take (g - l)) cs2 := by
                by_cases hml : m.getD cap = l
                · have : g = l := by omega
                  subst this
                  refine ⟨[], cellsAt.nil, ?_⟩
                  simp [RE]
                · rw [if_neg hml]
                  exact ⟨_, (h8.drop (l * size)).take ((g - l) * size), (h9'.drop l).take (g - l)⟩
              obtain ⟨cs2, k1, k2⟩ := key
              have := R_sl_of (C := C) (h := h) (hd := hd2) (xs := (xs.drop l).take (g - l)) (cap := m.getD cap - l) hne2 (by rw [hxl]; omega) (fun hx2 => by rw [hxl]; have := hex2 hx2; omega) (by rw [hxl]; omega)
                (fun hx2 => h7 (by intro hh; subst hh; simp at hx2)) k1 k2
              rwa [hxl] at this
            have hdd : ∃ hd2 : Hdr, d = .sl hd2 ((xs.drop l).take (g - l)) ∧ hd2 ≠ .nil ∧ (hd2.exact = true → m.getD cap = g) ∧ own' = h.own := by
              cases hd' <;> first
                | exact absurd rfl hne
                | (simp only [Option.some.injEq, Prod.mk.injEq] at hd
                   obtain ⟨rfl, rfl⟩ := hd
                   exact ⟨_, rfl, sliceHdr_ne hne, sliceHdr_exact h5, rfl⟩)
            obtain ⟨hd2, rfl, k1, k2, rfl⟩ := hdd
            exact Yields.same ok hrun (main hd2 k1 k2)
        · cases hd
      · cases hd
    | own id off n cap =>
      simp only [dslice] at hd
      split at hd
      · rename_i size' xs l g m hlv hl hg hm
        split at hd
        · rename_i hc
          obtain ⟨rfl, c1, c2, c3, c4⟩ := hc
          obtain ⟨tyo, ho⟩ := live_get hlv
          simp only [R] at hx
          obtain ⟨hid, _, htop, hx⟩ := hx
          obtain ⟨c', cc, el, f, rfl, hnc, hcap, hblk, hfit⟩ := hx _ _ _ ho
          have hbs := bounds_sound (P := P) (isS := true) (len := n) (cap := c') h1 h2 h3 hl hg hm c1 (by omega) (fun m' hm' => by have := c4 m' hm'; omega) hgiven h.w
          have hrun : (Instr.sliceAt t (.slice (some ⟨(h.M id).1, (h.M id).2 + off * size', none⟩) n c') ul uh um).run P h.w =
              .ok (.slice (some ⟨(h.M id).1, (if m.getD c' = l then (h.M id).2 + off * size' else (h.M id).2 + off * size' + l * size'), none⟩) (g - l) (m.getD c' - l)) h.w := by
            simp only [Instr.sliceAt, Instr.slice, Sem.run_bind, run_underlying hu, Result.andThen_ok, hbs, hsz, Sem.run_pure]
            split <;> simp [add_plain]
          have hmc : g ≤ m.getD c' := by
            cases m with
            | none => simp; omega
            | some m' => exact (c4 m' rfl).1
          have hmc2 : m.getD c' ≤ c' := by
            cases m with
            | none => simp
            | some m' => have := (c4 m' rfl).2; simp; omega
          -- nothing is left, and no room
          have empty : m.getD c' = l → ∀ hd2 : Hdr, hd2 ≠ .nil → R C h (.sl hd2 []) (.slice (some ⟨(h.M id).1, (if m.getD c' = l then (h.M id).2 + off * size' else (h.M id).2 + off * size' + l * size'), none⟩) (g - l) (m.getD c' - l)) := by
            intro hml hd2 hne
            have hgl : g - l = 0 := by omega
            rw [hgl]
            exact R_sl_of (size := 1) (cs := []) hne (by simp) (fun _ => by simp; omega) (by simp) (fun hx => absurd rfl hx) cellsAt.nil (by simp [RE])
          have part : m.getD c' ≠ l → ∀ cap2 : Option Nat, (∀ c, cap2 = some c → m.getD c' - l = c) → R C h (.own id (off + l) (g - l) cap2) (.slice (some ⟨(h.M id).1, (if m.getD c' = l then (h.M id).2 + off * size' else (h.M id).2 + off * size' + l * size'), none⟩) (g - l) (m.getD c' - l)) := by
            intro hml cap2 hc2
            simp only [R]
            refine ⟨hid, rfl, by omega, fun t2 s2 x2 ho2 => ?_⟩
            rw [ho] at ho2; cases ho2
            refine ⟨m.getD c' - l, cc, el, f, ?_, by omega, hc2, hblk, ?_⟩
            · rw [if_neg hml, Nat.add_mul, Nat.add_assoc]
            · have e1 : off + l + (m.getD c' - l) ≤ off + c' := by omega
              have := Nat.mul_le_mul_right size' e1
              omega
          cases m with
          | some m' =>
            simp only at hd
            split at hd
            · rename_i hml
              simp only [Option.some.injEq, Prod.mk.injEq] at hd
              obtain ⟨rfl, rfl⟩ := hd
              exact Yields.same ok hrun (empty hml _ (by simp))
            · rename_i hml
              simp only [Option.some.injEq, Prod.mk.injEq] at hd
              obtain ⟨rfl, rfl⟩ := hd
              exact Yields.same ok hrun (part hml _ (by simp))
          | none =>
            simp only at hd
            cases cap with
            | some c =>
              have hcc := hcap c rfl
              subst hcc
              simp only at hd
              split at hd
              · rename_i hml
                simp only [Option.some.injEq, Prod.mk.injEq] at hd
                obtain ⟨rfl, rfl⟩ := hd
                exact Yields.same ok hrun (empty hml _ (by simp))
              · rename_i hml
                simp only [Option.some.injEq, Prod.mk.injEq] at hd
                obtain ⟨rfl, rfl⟩ := hd
                exact Yields.same ok hrun (part hml _ (by simp))
            | none =>
              simp only at hd
              split at hd
              · rename_i hlg
                simp only [Option.some.injEq, Prod.mk.injEq] at hd
                obtain ⟨rfl, rfl⟩ := hd
                by_cases hml : (none : Option Nat).getD c' = l
                · -- l = 0: the capacity is 0
                  have hl0 : l = 0 := by rcases hlg with hh | hh <;> simp at hml <;> omega
                  subst hl0
                  refine Yields.same ok hrun ?_
                  simp only [R]
                  refine ⟨hid, rfl, by omega, fun t2 s2 x2 ho2 => ?_⟩
                  rw [ho] at ho2; cases ho2
                  refine ⟨(none : Option Nat).getD c' - 0, cc, el, f, by rw [if_pos hml]; simp, by omega, by simp, hblk, by simpa using hfit⟩
                · exact Yields.same ok hrun (part hml _ (by simp))
              · rename_i hlg
                simp only [Option.some.injEq, Prod.mk.injEq] at hd
                obtain ⟨rfl, rfl⟩ := hd
                have hgl : g - l = 0 := by omega
                refine Yields.same ok hrun ?_
                rw [hgl]
                exact R_sl_of (size := 1) (cs := []) (by simp) (by simp) (by simp [Hdr.exact]) (by simp) (fun hx => absurd rfl hx) cellsAt.nil (by simp [RE])
        · cases hd
      · cases hd
    | _ => simp [dslice] at hd
  | arr n size =>
    obtain ⟨e, hu, hsz⟩ := ht
    simp only [dslice] at hd
    cases hl : bnd lo 0 with
    | none => simp [hl] at hd
    | some l =>
    cases hg : bnd hi n with
    | none => simp [hl, hg] at hd
    | some g =>
    cases hm : obnd mx with
    | none => simp [hl, hg, hm] at hd
    | some m =>
    simp only [hl, hg, hm] at hd
    split at hd
    · rename_i hc
      obtain ⟨rfl, c1, c2, c3, ctop⟩ := hc
      have hbs := bounds_sound (P := P) (isS := false) (len := n) (cap := n) h1 h2 h3 hl hg hm c1 c2 c3 hgiven h.w
      have hmc : g ≤ m.getD n ∧ m.getD n ≤ n := by
        cases m with
        | none => simp; omega
        | some m' => exact c3 m' rfl
      have hrun : ∀ b o, (Instr.sliceAt t (.pointer (some ⟨b, o, none⟩)) ul uh um).run P h.w = .ok (.slice (some ⟨b, (if m.getD n = l then o else o + l), none⟩) (g - l) (m.getD n - l)) h.w := by
        intro b o
        simp only [Instr.sliceAt, Instr.sureAddr, Sem.run_bind, run_underlying hu, Result.andThen_ok, Sem.run_pure, hbs, hsz]
        split <;> simp [add_plain]
      have main : ∀ (h' : HS) (b o : Nat) (ds : List D) (cs : List Value), stable C h' b → cellsAt h'.w b o cs → RL C h' true ds cs → n ≤ ds.length → n ≤ top →
          R C h' (.sl (if m.getD n = g then .full else .ok) ((ds.drop l).take (g - l))) (.slice (some ⟨b, (if m.getD n = l then o else o + l), none⟩) (g - l) (m.getD n - l)) := by
        intro h' b o ds cs hst hc hr hnl hnt
        have hxl : ((ds.drop l).take (g - l)).length = g - l := by simp; omega
        have key : ∃ cs2, cellsAt h'.w b (if m.getD n = l then o else o + l) cs2 ∧ RE C h' 1 ((ds.drop l).take (g - l)) cs2 := by
          by_cases hml : m.getD n = l
          · have : g - l = 0 := by omega
            rw [this]
            exact ⟨[], cellsAt.nil, by simp [RE]⟩
          · rw [if_neg hml]
            exact ⟨_, (hc.drop l).take (g - l), ((hr.drop l).take (g - l)).toRE1⟩
        obtain ⟨cs2, k1, k2⟩ := key
        have := R_sl_of (C := C) (h := h') (hd := if m.getD n = g then .full else .ok) (xs := (ds.drop l).take (g - l)) (cap := m.getD n - l) (by split <;> simp) (by rw [hxl]; omega)
          (fun hx2 => by
            rw [hxl]
            split at hx2
            · omega
            · simp [Hdr.exact] at hx2) (by rw [hxl]; omega) (fun _ => hst) k1 k2
        rwa [hxl] at this
      cases x with
      | ptr id i off =>
        cases i with
        | succ _ => simp at hd
        | zero =>
        cases off with
        | succ _ => simp at hd
        | zero =>
        simp only at hd
        cases hlv : live h.own id with
        | none => simp [hlv] at hd
        | some sx =>
        obtain ⟨s1, x1⟩ := sx
        simp only [hlv] at hd
        split at hd
        · rename_i s2 ds heq
          simp only [Option.some.injEq, Prod.mk.injEq] at heq
          obtain ⟨rfl, rfl⟩ := heq
          split at hd
          · rename_i hcl
            simp only [Option.some.injEq, Prod.mk.injEq] at hd
            obtain ⟨rfl, rfl⟩ := hd
            obtain ⟨tyo, ho⟩ := live_get hlv
            obtain ⟨c, v, pa, z, q1, q2, q3, q4, q5, _⟩ := arr_at ok ho (i := 0) (x := .agg ds) rfl
            have hrl := cells_sound q2 (ds := ds) rfl
            simp only [R] at hx
            have := hx.2.2 _ _ _ ho
            subst this
            refine ⟨.slice (some ⟨(h.M id).1, (if m.getD n = l then (h.M id).2 + 0 * s1 + 0 else (h.M id).2 + 0 * s1 + 0 + l), none⟩) (g - l) (m.getD n - l), h.kill id, ?_, ?_, rfl, rfl, Ext.kill h id, OK.kill ok id⟩
            · exact hrun (h.M id).1 ((h.M id).2 + 0 * s1 + 0)
            · have hok := ok.id id _ ho
              refine main (h.kill id) (h.M id).1 _ ds v.cells.toList ⟨hok.2.1, ?_, hok.2.2.1⟩ ?_ (hrl.ext (Ext.kill h id)) (by omega) ?_
              · rintro ⟨j, o, hj, hM⟩
                obtain ⟨hne, hj'⟩ := kill_get hj
                exact hne (ok.inj j id o _ hj' ho hM)
              · intro k hk
                simp only [HS.kill, World.cell?, q1, Option.isSome_none, Bool.false_eq_true, if_false]
                rw [← Array.getElem?_toList, q4]
                simp only [Nat.zero_mul, Nat.add_zero] at q5 ⊢
                rw [← q5, List.getElem?_append_right (by omega), show pa.length + k - pa.length = k by omega, List.getElem?_append_left hk]
                simp
              · exact ctop
          · cases hd
        · cases hd
      | ep ds =>
        simp only at hd
        split at hd
        · rename_i hcl
          simp only [Option.some.injEq, Prod.mk.injEq] at hd
          obtain ⟨rfl, rfl⟩ := hd
          simp only [R] at hx
          obtain ⟨b, o, cs, rfl, q1, q2, q3⟩ := hx
          exact Yields.same ok (hrun b o) (main h b o ds cs q1 q2 q3 hcl.1 ctop)
        · cases hd
      | _ => simp at hd
    · cases hd
end
end Gv
/-! Operations on values alone. -/
namespace Gv
open Go
set_option linter.unusedVariables false

section
variable {C : Cx} {h : HS} {P : Program}

/-- An operation on values alone. -/
def Pure1 (C : Cx) (P : Program) (h : HS) (s : Sem Value) (d : D) : Prop := ∃ v, s.run P h.w = .ok v h.w ∧ R C h d v

/-! ### A part of a struct or of an array -/
theorem part_sound {t : TypeId} {n : Option Nat} (hagg : ∀ w, (isAgg t).run P w = Result.ok n.isSome w) (hsz : ∀ k, n = some k → ∀ w, (Go.sizeOf t).run P w = Result.ok k w)
    {ds : List D} {cs : Array Value} (hr : RL C h true ds cs.toList) {off : Nat} {d : D} (hd : mkval n (ds.drop off) = some d) : Pure1 C P h (part t cs off) d := by
  cases n with
  | none =>
    simp only [mkval, List.head?_drop] at hd
    obtain ⟨u, h1, h2, h3⟩ := hr.get off hd
    have : cs[off]? = some u := by simpa using h1
    exact ⟨u, by simp [part, hagg, this], h3⟩
  | some k =>
    simp only [mkval] at hd
    split at hd
    · rename_i hk
      simp only [Option.some.injEq] at hd
      subst hd
      refine ⟨.agg (cs.extract off (off + k)), by simp [part, hagg, hsz k rfl], ?_⟩
      simp only [R]
      refine ⟨_, rfl, ?_⟩
      have := (hr.drop off).take k
      simpa [Array.toList_extract] using this
    · cases hd

def dfld (off : Nat) (n : Option Nat) (x : D) : Option D := match x with | .agg ds => mkval n (ds.drop off) | _ => none

theorem dfld_sound {t : TypeId} {fields : Array Field} {fi : Nat} {f : Field} (hu : P.underlying t = some (.struct fields)) (hf : fields[fi]? = some f) {n : Option Nat}
    (hagg : ∀ w, (isAgg f.type).run P w = Result.ok n.isSome w) (hsz : ∀ k, n = some k → ∀ w, (Go.sizeOf f.type).run P w = Result.ok k w) {x d : D} {u : Value} (hr : R C h x u) (hd : dfld f.offset n x = some d) :
    Pure1 C P h (Instr.field t u fi) d := by
  cases x with
  | agg ds =>
    simp only [dfld] at hd
    simp only [R] at hr
    obtain ⟨cs, rfl, h2⟩ := hr
    obtain ⟨v, h3, h4⟩ := part_sound (P := P) hagg hsz h2 hd
    exact ⟨v, by simp [Instr.field, run_underlying hu, hf, asAgg, h3], h4⟩
  | _ => simp [dfld] at hd

def didx (k : GK) (x i : D) : Option D :=
  match natOf i with
  | none => none
  | some i =>
    match k with
    | .str => match x with | .str s => (s[i]?).map fun (b : Nat) => .v (.int .u8 b) | _ => none
    | .arr n size agg => match x with | .agg ds => if i < n then mkval (if agg then some size else none) (ds.drop (i * size)) else none | _ => none

theorem didx_sound {t : TypeId} {k : GK} (ht : match k with | .str => P.underlying t = some .string | .arr n size agg => ∃ e, P.underlying t = some (.array n e) ∧ (∀ w, (Go.sizeOf e).run P w = Result.ok size w) ∧ (∀ w, (isAgg e).run P w = Result.ok agg w))
    {x i d : D} {ux ui : Value} (hx : R C h x ux) (hi : R C h i ui) (hd : didx k x i = some d) : Pure1 C P h (Instr.index t ux ui) d := by
  cases hn : natOf i with
  | none => simp [didx, hn] at hd
  | some i =>
  obtain ⟨ki, rfl⟩ := natOf_sound hi hn
  cases k with
  | str =>
    simp only at ht
    cases x with
    | str s =>
      simp only [didx, hn, Option.map_eq_some_iff] at hd
      obtain ⟨b, hb, rfl⟩ := hd
      simp only [R] at hx
      obtain ⟨bs, rfl, rfl, _⟩ := hx
      simp only [List.getElem?_map, Option.map_eq_some_iff] at hb
      obtain ⟨c, hc, rfl⟩ := hb
      have hc' : bs[i]? = some c := by
        have : bs.data[i]? = some c := by simpa using hc
        obtain ⟨h1, h2⟩ := Array.getElem?_eq_some_iff.1 this
        rw [getElem?_pos bs i h1]
        exact congrArg some h2
      refine ⟨.int .u8 c.toNat, ?_, by simp [R]⟩
      simp [Instr.index, asIntOf, run_underlying ht, hc']
    | _ => simp [didx, hn] at hd
  | arr n size agg =>
    obtain ⟨e, hu, hsz, hag⟩ := ht
    cases x with
    | agg ds =>
      simp only [didx, hn] at hd
      split at hd
      · rename_i hin
        simp only [R] at hx
        obtain ⟨cs, rfl, h2⟩ := hx
        have ha : ∀ w, (isAgg e).run P w = Result.ok (if agg = true then some size else none).isSome w := fun w => by rw [hag]; cases agg <;> rfl
        obtain ⟨v, h3, h4⟩ := part_sound (P := P) (t := e) ha (fun k hk w => by
          cases agg
          · simp at hk
          · simp at hk; rw [hsz, hk]) h2 hd
        refine ⟨v, ?_, h4⟩
        have : (0 : Int) ≤ (i : Int) ∧ (i : Int) < (n : Int) := by omega
        simp [Instr.index, asIntOf, run_underlying hu, this, hsz, h3, hin]
      · cases hd
    | _ => simp [didx, hn] at hd

def dext (i : Nat) (x : D) : Option D := match x with | .tup ds => ds[i]? | _ => none
theorem dext_sound {i : Nat} {x d : D} {u : Value} (hr : R C h x u) (hd : dext i x = some d) : Pure1 C P h (Instr.extract u i) d := by
  cases x with
  | tup ds =>
    simp only [dext] at hd
    simp only [R] at hr
    obtain ⟨cs, rfl, h2⟩ := hr
    obtain ⟨v, h3, _, h4⟩ := h2.get i hd
    have : cs[i]? = some v := by simpa using h3
    exact ⟨v, by simp [Instr.extract, this], h4⟩
  | _ => simp [dext] at hd

/-! ### Struct and array values -/
/-- Parts laid into cells: each has its place and its size. -/
def dfill : List (Nat × Nat × D) → List D → Option (List D)
  | [], cs => some cs
  | (off, size, x) :: rest, cs =>
    match x.cells? with
    | some vs => if vs.length = size ∧ off + size ≤ cs.length then dfill rest (cs.take off ++ (vs ++ cs.drop (off + size))) else none
    | none => none

theorem foldl_set {α : Type} (vs : List α) : ∀ (off j : Nat) (cs : List α), off + j + vs.length ≤ cs.length →
    ((vs.zipIdx j).foldl (fun (cs : Array α) (c : α × Nat) => cs.setIfInBounds (off + c.2) c.1) cs.toArray).toList = cs.take (off + j) ++ (vs ++ cs.drop (off + j + vs.length)) := by
  induction vs with
  | nil => intro off j cs h; simp
  | cons v vs ih =>
    intro off j cs h
    have hl : off + j < cs.length := by simp at h; omega
    have := ih off (j + 1) (cs.set (off + j) v) (by simp at h ⊢; omega)
    simp only [List.zipIdx_cons, List.foldl_cons] at this ⊢
    rw [show (cs.toArray.setIfInBounds (off + j) v) = (cs.set (off + j) v).toArray by simp]
    rw [this]
    have e1 : (cs.set (off + j) v).take (off + (j + 1)) = cs.take (off + j) ++ [v] := by
      apply List.ext_getElem?
      intro k
      simp only [List.getElem?_take, List.getElem?_set, List.getElem?_append, List.length_take]
      by_cases hk : k < off + j
      · simp [hk, show k < off + (j + 1) by omega, show ¬ off + j = k by omega, show k < min (off + j) cs.length by omega]
      · by_cases hk2 : k = off + j
        · subst hk2; simp [hl, show ¬ off + j < min (off + j) cs.length by omega, show off + j - min (off + j) cs.length = 0 by omega, show off + j < off + (j + 1) by omega]
        · simp [hk, show ¬ k < off + (j + 1) by omega, show ¬ k < min (off + j) cs.length by omega]
          omega
    have e2 : (cs.set (off + j) v).drop (off + (j + 1) + vs.length) = cs.drop (off + j + (v :: vs).length) := by
      apply List.ext_getElem?
      intro k
      simp only [List.getElem?_drop, List.getElem?_set, List.length_cons]
      rw [if_neg (by omega)]
      congr 1; omega
    rw [e1, e2]
    simp

theorem fill_sound {place : Nat → Option (Nat × Nat)} : ∀ {ps : List (Nat × Value)} {qs : List (Nat × Nat × D)} {ds out : List D} {cs : List Value}, RL C h true ds cs →
    (ps.length = qs.length ∧ ∀ k (hk : k < ps.length) (hk' : k < qs.length), place ps[k].1 = some (qs[k].1, qs[k].2.1) ∧ R C h qs[k].2.2 ps[k].2) → dfill qs ds = some out →
    ∃ co : Array Value, Instr.fill place cs.toArray ps = some co ∧ RL C h true out co.toList
  | [], [], ds, out, cs, hr, hp, hd => by
    simp only [dfill, Option.some.injEq] at hd
    subst hd
    exact ⟨_, rfl, by simpa using hr⟩
  | [], _ :: _, ds, out, cs, hr, hp, hd => by simp at hp
  | _ :: _, [], ds, out, cs, hr, hp, hd => by simp at hp
  | (i, v) :: ps, (off, size, x) :: qs, ds, out, cs, hr, hp, hd => by
    obtain ⟨hl, hp⟩ := hp
    have h0 := hp 0 (by simp) (by simp)
    simp only [List.getElem_cons_zero] at h0
    obtain ⟨h1, h2⟩ := h0
    simp only [dfill] at hd
    cases hcs : x.cells? with
    | none => simp [hcs] at hd
    | some vs =>
    simp only [hcs] at hd
    split at hd
    · rename_i hc
      obtain ⟨hs, ho⟩ := hc
      have hv := cells_sound h2 hcs
      have hvl := hv.length
      have hcl := hr.length
      have hsz : v.cells.size = size := by rw [← Array.length_toList]; omega
      have hset := foldl_set v.cells.toList off 0 cs (by omega)
      have hrl : RL C h true (ds.take off ++ (vs ++ ds.drop (off + size))) (cs.take off ++ (v.cells.toList ++ cs.drop (off + size))) := (hr.take off).append (hv.append (hr.drop (off + size)))
      obtain ⟨co, g1, g2⟩ := fill_sound (place := place) (ps := ps) hrl ⟨by simpa using hl, fun k hk hk' => by
        have := hp (k + 1) (by simpa using hk) (by simpa using hk')
        simpa using this⟩ hd
      refine ⟨co, ?_, g2⟩
      have e : (v.cells.zipIdx.foldl (fun (cs : Array Value) (c : Value × Nat) => cs.setIfInBounds (off + c.2) c.1) cs.toArray) = (cs.take off ++ (v.cells.toList ++ cs.drop (off + size))).toArray := by
        apply Array.ext'
        have hset' := hset
        simp only [Nat.add_zero] at hset'
        rw [← Array.foldl_toList, Array.toList_zipIdx, hset', hvl, hs]
      simp only [Instr.fill, h1]
      rw [if_neg (by simp [hsz]; omega)]
      have e2 : (Array.foldl (fun cs x => match x with | (c, j) => cs.setIfInBounds (off + j) c) cs.toArray v.cells.zipIdx) = (cs.take off ++ (v.cells.toList ++ cs.drop (off + size))).toArray := e
      rw [e2]
      exact g1
    · cases hd

/-- Values for operands, one by one. -/
def RP (C : Cx) (h : HS) : List D → List Value → Prop := fun ds us => RL C h false ds us

def dbuild (z : List D) (qs : List (Nat × Nat × D)) : Option D := (dfill qs z).map .agg

theorem build_struct {t : TypeId} {fields : Array Field} (hu : P.underlying t = some (.struct fields)) {zu : Array Value} {zv : Value} (hz : ∀ w, (zeroValue t).run P w = Result.ok zv w) (hzv : zv.cells = zu) {z : List D} (hrz : RL C h true z zu.toList)
    {places : Array (Nat × Nat)} (hpl : ∀ w, (fields.mapM fun f => do pure (f.offset, ← Go.sizeOf f.type) : Sem (Array (Nat × Nat))).run P w = Result.ok places w)
    {ps : Array (Nat × Value)} {qs : List (Nat × Nat × D)} (hp : ps.toList.length = qs.length ∧ ∀ k (hk : k < ps.toList.length) (hk' : k < qs.length), places[ps.toList[k].1]? = some (qs[k].1, qs[k].2.1) ∧ R C h qs[k].2.2 ps.toList[k].2)
    {d : D} (hd : dbuild z qs = some d) : Pure1 C P h (Instr.build t ps) d := by
  simp only [dbuild, Option.map_eq_some_iff] at hd
  obtain ⟨out, ho, rfl⟩ := hd
  obtain ⟨co, h1, h2⟩ := fill_sound (place := (places[·]?)) hrz hp ho
  refine ⟨.agg co, ?_, by simp only [R]; exact ⟨co, rfl, h2⟩⟩
  simp only [Array.toArray_toList] at h1
  simp only [Instr.build, Sem.run_bind, hz, Result.andThen_ok, run_underlying hu, hpl, hzv, h1, Sem.run_pure]

theorem build_array {t e : TypeId} {len size : Nat} (hu : P.underlying t = some (.array len e)) {zu : Array Value} {zv : Value} (hz : ∀ w, (zeroValue t).run P w = Result.ok zv w) (hzv : zv.cells = zu) {z : List D} (hrz : RL C h true z zu.toList)
    (hsz : ∀ w, (Go.sizeOf e).run P w = Result.ok size w)
    {ps : Array (Nat × Value)} {qs : List (Nat × Nat × D)} (hp : ps.toList.length = qs.length ∧ ∀ k (hk : k < ps.toList.length) (hk' : k < qs.length), some (ps.toList[k].1 * size, size) = some (qs[k].1, qs[k].2.1) ∧ R C h qs[k].2.2 ps.toList[k].2)
    {d : D} (hd : dbuild z qs = some d) : Pure1 C P h (Instr.build t ps) d := by
  simp only [dbuild, Option.map_eq_some_iff] at hd
  obtain ⟨out, ho, rfl⟩ := hd
  obtain ⟨co, h1, h2⟩ := fill_sound (place := fun i => some (i * size, size)) hrz hp ho
  refine ⟨.agg co, ?_, by simp only [R]; exact ⟨co, rfl, h2⟩⟩
  simp only [Array.toArray_toList] at h1
  simp [Instr.build, hz, hzv, run_underlying hu, hsz, h1]

/-! ### Operators -/
def D.scalar? : D → Option Value
  | .v x => some x
  | _ => none
theorem scalar_sound {d : D} {u x : Value} (hr : R C h d u) (hs : d.scalar? = some x) : u = x := by
  cases d <;> simp [D.scalar?] at hs
  subst hs; simpa [R] using hr

/-- Does a list begin as another one does not? Bytes in order. -/
def strLess : List Nat → List Nat → Bool
  | _, [] => false
  | [], _ :: _ => true
  | a :: x, b :: y => decide (a < b) || (decide (a = b) && strLess x y)

def dbinInt (op : BinOp) (k : IntKind) (a b : Int) : Option Value :=
  match op with
  | .add => some (.int k (k.wrap (a + b)))
  | .sub => some (.int k (k.wrap (a - b)))
  | .mul => some (.int k (k.wrap (a * b)))
  | .quo => if b = 0 then none else some (.int k (k.wrap (a.tdiv b)))
  | .rem => if b = 0 then none else some (.int k (a.tmod b))
  | .and => some (.int k (k.wrap (BitVec.ofInt k.bits a &&& BitVec.ofInt k.bits b).toNat))
  | .or => some (.int k (k.wrap (BitVec.ofInt k.bits a ||| BitVec.ofInt k.bits b).toNat))
  | .xor => some (.int k (k.wrap (BitVec.ofInt k.bits a ^^^ BitVec.ofInt k.bits b).toNat))
  | .andNot => some (.int k (k.wrap (BitVec.ofInt k.bits a &&& ~~~ BitVec.ofInt k.bits b).toNat))
  | .eql => some (.bool (a == b))
  | .neq => some (.bool (a != b))
  | .lss => some (.bool (decide (a < b)))
  | .leq => some (.bool (decide (a ≤ b)))
  | .gtr => some (.bool (decide (a > b)))
  | .geq => some (.bool (decide (a ≥ b)))
  | _ => none

def dshift (op : BinOp) (k : IntKind) (a b : Int) : Option Value :=
  if b < 0 then none else
  match op with
  | .shl => some (.int k (k.wrap (a * 2 ^ (min b.toNat k.bits))))
  | .shr => some (.int k (a.fdiv (2 ^ (min b.toNat k.bits))))
  | _ => none

def isShift : BinOp → Bool | .shl | .shr => true | _ => false

/-- Against nil. -/
def isNilD (own : Tr Obj) (d : D) : Option Bool :=
  match d with
  | .v (.pointer none) | .v .nilIface | .v .nilFunc | .v (.map none) => some true
  | .sl .nil _ => some true
  | .sl .ok _ | .sl .full _ => some false
  | .sl _ (_ :: _) => some false
  | .own id _ _ _ => (live own id).map fun _ => false
  | .ptr id _ _ => (live own id).map fun _ => false
  | .ep _ => some false
  | .iface _ _ => some false
  | .fn _ _ _ => some false
  | .map id => match own.get id with | some (.map _) => some false | _ => none
  | _ => none

def dbin (own : Tr Obj) (op : BinOp) (k : BK) (x y : D) : Option D :=
  match k with
  | .ptr => none
  | .sc =>
    match x, y with
    | .v (.int k a), .v (.int k' b) =>
      if isShift op then (dshift op k a b).map .v else if k = k' then (dbinInt op k a b).map .v else none
    | _, _ => none
  | .bl =>
    match x, y with
    | .v (.bool a), .v (.bool b) =>
      match op with
      | .eql => some (.v (.bool (a == b)))
      | .neq => some (.v (.bool (!(a == b))))
      | _ => none
    | _, _ => none
  | .str =>
    match x, y with
    | .str a, .str b =>
      match op with
      | .add => if a.length + b.length ≤ 2 ^ 47 then some (.str (a ++ b)) else none
      | .eql => some (.v (.bool (a == b)))
      | .neq => some (.v (.bool (!(a == b))))
      | .lss => some (.v (.bool (strLess a b)))
      | .leq => some (.v (.bool (strLess a b || a == b)))
      | .gtr => some (.v (.bool (!(strLess a b || a == b))))
      | .geq => some (.v (.bool (!(strLess a b))))
      | _ => none
    | _, _ => none
  | .nily =>
    match op with
    | .eql => (isNilD own x).map fun b => .v (.bool b)
    | .neq => (isNilD own x).map fun b => .v (.bool (!b))
    | _ => none
  | .nilx =>
    match op with
    | .eql => (isNilD own y).map fun b => .v (.bool b)
    | .neq => (isNilD own y).map fun b => .v (.bool (!b))
    | _ => none
  | .deep ks =>
    match x, y with
    | .agg xs, .agg ys =>
      match op with
      | .eql => (deepEq ks xs ys).map fun b => .v (.bool b)
      | .neq => (deepEq ks xs ys).map fun b => .v (.bool (!b))
      | _ => none
    | _, _ => none
  where
  deepEq : List FK → List D → List D → Option Bool
    | [], [], [] => some true
    | .int :: ks, .v (.int k a) :: xs, .v (.int k' b) :: ys => if k = k' then (if a == b then deepEq ks xs ys else some false) else none
    | .bool :: ks, .v (.bool a) :: xs, .v (.bool b) :: ys => if a == b then deepEq ks xs ys else some false
    | .str :: ks, .str a :: xs, .str b :: ys => if a == b then deepEq ks xs ys else some false
    | _, _, _ => none

theorem bytes_inj {a b : ByteArray} : (a.data.toList.map UInt8.toNat == b.data.toList.map UInt8.toNat) = (a.toList == b.toList) := by
  rw [ByteArray.toList_eq, ByteArray.toList_eq, Bool.eq_iff_iff, beq_iff_eq, beq_iff_eq]
  constructor
  · intro h
    exact (List.map_inj_right (fun x y hxy => UInt8.toNat_inj.1 hxy)).1 h
  · intro h; rw [h]
theorem bytesLess_eq' : ∀ (a b : List UInt8), Op.bytesLess a b = strLess (a.map UInt8.toNat) (b.map UInt8.toNat)
  | a, [] => by cases a <;> rfl
  | [], _ :: _ => rfl
  | a :: x, b :: y => by
    simp only [Op.bytesLess, List.map_cons, strLess, bytesLess_eq' x y]
    congr 1
    congr 1
    rw [Bool.eq_iff_iff, beq_iff_eq, decide_eq_true_iff, UInt8.toNat_inj]
theorem bytesLess_eq (a b : ByteArray) : Op.bytesLess a.toList b.toList = strLess (a.data.toList.map UInt8.toNat) (b.data.toList.map UInt8.toNat) := by
  rw [ByteArray.toList_eq, ByteArray.toList_eq, bytesLess_eq']

theorem isNilD_sound (ok : OK C h) {d : D} {u : Value} (hr : R C h d u) {b : Bool} (hn : isNilD h.own d = some b) :
    (b = true → u = .pointer none ∨ u = .nilIface ∨ u = .nilFunc ∨ u = .map none ∨ u = .slice none 0 0) ∧
    (b = false → (∃ a, u = .pointer (some a)) ∨ (∃ t x, u = .iface t x) ∨ (∃ f x y, u = .func f x y) ∨ (∃ r, u = .map (some r)) ∨ (∃ a n c, u = .slice (some a) n c)) := by
  cases d with
  | v x =>
    simp only [R] at hr
    subst hr
    cases u with
    | pointer a => cases a <;> simp [isNilD] at hn; subst hn; simp
    | map a => cases a <;> simp [isNilD] at hn; subst hn; simp
    | nilIface => simp [isNilD] at hn; subst hn; simp
    | nilFunc => simp [isNilD] at hn; subst hn; simp
    | _ => simp [isNilD] at hn
  | sl hd xs =>
    simp only [R] at hr
    rcases hr with ⟨rfl, rfl, hh⟩ | ⟨hne, b', off, cap, size, cs, rfl, _⟩
    · cases hd <;> simp [isNilD, Hdr.mayNil] at hn hh ⊢
      subst hn; simp
    · cases hd with
      | nil => exact absurd rfl hne
      | ok => simp [isNilD] at hn; subst hn; simp
      | full => simp [isNilD] at hn; subst hn; simp
      | any => cases xs <;> simp [isNilD] at hn; subst hn; simp
      | clip => cases xs <;> simp [isNilD] at hn; subst hn; simp
  | own id off n cap =>
    simp only [isNilD, Option.map_eq_some_iff] at hn
    obtain ⟨⟨s, xs⟩, hl, rfl⟩ := hn
    simp only [R] at hr
    obtain ⟨c', cs, e, f, rfl, _⟩ := hr.2.2.2 _ _ _ (live_get hl).choose_spec
    simp
  | ptr id i off =>
    simp only [isNilD, Option.map_eq_some_iff] at hn
    obtain ⟨⟨s, xs⟩, hl, rfl⟩ := hn
    simp only [R] at hr
    have := hr.2.2 _ _ _ (live_get hl).choose_spec
    subst this; simp
  | ep cs =>
    simp only [isNilD, Option.some.injEq] at hn
    subst hn
    simp only [R] at hr
    obtain ⟨b, off, vs, rfl, _⟩ := hr
    simp
  | iface t d =>
    simp only [isNilD, Option.some.injEq] at hn
    subst hn
    simp only [R] at hr
    obtain ⟨x, rfl, _⟩ := hr
    simp
  | fn f a b =>
    simp only [isNilD, Option.some.injEq] at hn
    subst hn
    simp only [R] at hr
    obtain ⟨x, y, rfl, _⟩ := hr
    simp
  | map id =>
    simp only [isNilD] at hn
    split at hn
    · rename_i es ho
      simp only [Option.some.injEq] at hn
      subst hn
      simp only [R] at hr
      have := hr.2.2 _ ho
      subst this; simp
    · cases hn
  | _ => simp [isNilD] at hn

/-- What a comparison with nil is of. -/
def NilTy (P : Program) (t : TypeId) : Prop :=
  (∃ e, P.underlying t = some (.slice e)) ∨ (∃ e, P.underlying t = some (.pointer e)) ∨ (∃ ms, P.underlying t = some (.interface ms)) ∨ (∃ a b c, P.underlying t = some (.func a b c)) ∨ (∃ k e, P.underlying t = some (.map k e))

end
end Gv
