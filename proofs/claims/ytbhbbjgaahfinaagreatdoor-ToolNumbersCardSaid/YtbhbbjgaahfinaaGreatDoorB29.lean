/- Part of the proof of ToolNumbers by an evaluator that is proved sound: B29. No condition of its own. -/
import Derived.Test.YtbhbbjgaahfinaaGreatDoorB26
set_option linter.unusedVariables false
set_option linter.unusedSimpArgs false
/-! More fuel answers alike. -/
namespace Gv
open Go
set_option linter.unusedVariables false

def LeS (f g : IC → St → Option (DX × St)) : Prop := ∀ c s r, f c s = some r → g c s = some r

def insK (s : St) (dst : Option Nat) (X : Ans) : Option (DX × St) := match X with
  | some (.ok d, own, next) => some (.normal, ⟨setDst s.E dst d, own, next, s.dfs⟩)
  | some (.pan d, own, next) => some (.panic d, ⟨s.E, own, next, s.dfs⟩)
  | none => none
theorem insK_mono {s : St} {dst : Option Nat} {X Y : Ans} (hXY : ∀ q, X = some q → Y = some q) {r : DX × St} (h : insK s dst X = some r) : insK s dst Y = some r := by
  cases X with
  | none => cases h
  | some q => rw [hXY q rfl]; exact h

section
variable {T : Tab} {f g : IC → St → Option (DX × St)} (hg : LeS f g)
include hg

theorem dS_mono : ∀ (c : IC) (m : Md) (s : St) r, dS f c m s = some r → dS g c m s = some r := by
  intro c
  induction c with
  | seq a b iha ihb =>
    intro m s r h
    simp only [dS] at h ⊢
    cases hx : dS f a m s with
    | none => rw [hx] at h; cases h
    | some q =>
      rw [iha _ _ _ hx]; rw [hx] at h
      obtain ⟨x, s', m'⟩ := q
      cases x <;> first | exact ihb _ _ _ h | exact h
  | region ops => intro m s r h; simpa only [dS] using h
  | _ =>
    intro m s r h
    simp only [dS] at h ⊢
    first
      | exact h
      | (split at h
         · rename_i hx; rw [hg _ _ _ hx]; exact h
         · cases h)

theorem ddefer_mono {k : Nat} {args : List D} {m : Md} {own : Tr Obj} {next : Nat} {r} (h : ddefer T f k args m own next = some r) : ddefer T g k args m own next = some r := by
  unfold ddefer at h ⊢
  cases hc : T.code k with
  | none => rw [hc] at h; cases h
  | some fi =>
    rw [hc] at h
    simp only [b1] at h ⊢
    split at h
    · rename_i hn
      rw [if_pos hn]
      cases hx : dS f fi.body m ⟨putArgs args 0 .nil, own, next, []⟩ with
      | none => rw [hx] at h; split at h <;> simp_all
      | some q => rw [dS_mono hg _ _ _ _ hx]; rw [hx] at h; exact h
    · cases h

theorem dleave_mono {E : Tr D} {res : List RK} : ∀ (l : List Dfr) (m : Md) (own : Tr Obj) (next : Nat) r, dleave T f E res l m own next = some r → dleave T g E res l m own next = some r
  | [], .pan d, own, next, r, h => h
  | [], .ret, own, next, r, h => h
  | [], .recd, own, next, r, h => h
  | .mark id :: rest, m, own, next, r, h => by
    simp only [dleave] at h ⊢
    split at h
    · rename_i hx; try simp only [hx]
      exact dleave_mono rest _ _ _ _ h
    · cases h
  | .rnd :: rest, m, own, next, r, h => by simp only [dleave] at h; cases h
  | .call k args :: rest, m, own, next, r, h => by
    simp only [dleave] at h ⊢
    split at h
    · rename_i hx; rw [ddefer_mono hg hx]; exact dleave_mono rest _ _ _ _ h
    · cases h

theorem dcall_mono {k : Nat} {args : List D} {own : Tr Obj} {next : Nat} {r} (h : dcall T f k args own next = some r) : dcall T g k args own next = some r := by
  unfold dcall at h ⊢
  cases hp : T.prim k with
  | some p => rw [hp] at h; exact h
  | none =>
    rw [hp] at h
    simp only at h ⊢
    cases hc : T.code k with
    | none => rw [hc] at h; cases h
    | some fi =>
      rw [hc] at h
      simp only [b1] at h ⊢
      split at h
      · rename_i hn
        rw [if_pos hn]
        cases hx : f fi.body ⟨putArgs args 0 .nil, own, next, []⟩ with
        | none => rw [hx] at h; cases h
        | some q =>
          rw [hg _ _ _ hx]; rw [hx] at h
          obtain ⟨x, s⟩ := q
          cases x <;> simp only at h ⊢ <;> first | exact dleave_mono hg _ _ _ _ _ h | cases h
      · cases h

theorem dround_mono {id : Nat} {args : List D} {own : Tr Obj} {next : Nat} {r} (h : dround f id args own next = some r) : dround g id args own next = some r := by
  unfold dround at h ⊢
  split at h
  · rename_i nt env ps assign body ho
    try rw [ho]
    try simp only at h ⊢
    split at h
    · rename_i hps
      rw [if_pos hps]
      cases hE : putParams ps args env with
      | none => rw [hE] at h; cases h
      | some E =>
        rw [hE] at h
        simp only [b1] at h ⊢
        split at h
        · rename_i hx
          rw [hg _ _ _ hx]
          simp only at h ⊢
          split at h
          · rename_i hy
            try rw [hy]
            try simp only at h ⊢
            split at h
            · rename_i hz
              rw [hg _ _ _ hz]; exact h
            · cases h
          · cases h
        · cases h
    · cases h
  · cases h

theorem dstep_mono {own : Tr Obj} {next : Nat} {E : Tr D} {op : IOp} {r} (h : dstep T f own next E op = some r) : dstep T g own next E op = some r := by
  cases op <;> first | exact h | skip
  · simp only [dstep] at h ⊢
    cases he : evs E ‹_› with
    | none => rw [he] at h; cases h
    | some ds => rw [he] at h; exact dcall_mono hg h
  · simp only [dstep] at h ⊢
    cases he : evs E ‹_› with
    | none => rw [he] at h; cases h
    | some ds =>
      rw [he] at h
      simp only [b1] at h ⊢
      split at h
      · rename_i hx; (try rw [hx]); exact dcall_mono hg h
      · rename_i hx; (try rw [hx]); exact dround_mono hg h
      · rename_i hx; try rw [hx]
        try simp only at h ⊢
        split at h
        · rename_i hi
          rw [if_pos hi]
          split at h
          · rename_i hy; try rw [hy]
            try simp only at h ⊢
            revert h
            cases T.meth _ _ with
            | none => intro h; cases h
            | some q => intro h; exact dcall_mono hg h
          · cases h
        · cases h
      · cases h
  · simp only [dstep] at h ⊢
    cases he : evs E ‹_› with
    | none => rw [he] at h; cases h
    | some ds =>
      rw [he] at h
      simp only [b1] at h ⊢
      split at h
      · rename_i hx; try rw [hx]
        try simp only at h ⊢
        revert h
        cases T.meth _ _ with
        | none => intro h; cases h
        | some q => intro h; exact dcall_mono hg h
      · cases h

theorem dins_mono {i : Ins} {s : St} {r} (h : dins T f i s = some r) : dins T g i s = some r := by
  obtain ⟨dst, op, gd⟩ := i
  simp only [dins] at h ⊢
  split at h
  · rename_i hgd
    try rw [hgd]
    try simp only at h ⊢
    cases op <;> first | exact h | exact insK_mono (fun q hq => dstep_mono hg hq) h
  · rename_i hgd; (try rw [hgd]); exact h
  · cases h

theorem dops_mono : ∀ (is : List Ins) (s : St) r, dops T f is s = some r → dops T g is s = some r
  | [], s, r, h => h
  | i :: is, s, r, h => by
    simp only [dops] at h ⊢
    cases hx : dins T f i s with
    | none => rw [hx] at h; cases h
    | some q =>
      rw [dins_mono hg hx]; rw [hx] at h
      obtain ⟨x, s'⟩ := q
      cases x <;> first | exact dops_mono is _ _ h | exact h

theorem stepAt_mono {E : Tr D} {own : Tr Obj} {next : Nat} {i : Ins} {r} (h : stepAt T f E own next i = some r) : stepAt T g E own next i = some r := by
  unfold stepAt at h ⊢
  split at h
  · rename_i hgd
    try rw [hgd]
    try simp only at h ⊢
    cases hx : dstep T f own next E i.op with
    | none => rw [hx] at h; cases h
    | some q => rw [dstep_mono hg hx]; rw [hx] at h; exact h
  · rename_i hgd; (try rw [hgd]); exact h
  · cases h

theorem ddraw1_mono {E : Tr D} {own : Tr Obj} {next : Nat} {i : Ins} {c : Cls} {r} (h : ddraw1 T f i c E own next = some r) : ddraw1 T g i c E own next = some r := by
  cases c <;> simp only [ddraw1] at h ⊢ <;> first
    | exact h
    | (split at h
       · rename_i hx; rw [stepAt_mono hg hx]; exact h
       · cases h)

theorem ddraw_mono : ∀ (l : List (Ins × Cls)) (E : Tr D) (own : Tr Obj) (next : Nat) r, ddraw T f l E own next = some r → ddraw T g l E own next = some r
  | [], E, own, next, r, h => h
  | (i, c) :: l, E, own, next, r, h => by
    simp only [ddraw] at h ⊢
    cases hx : ddraw1 T f i c E own next with
    | none => rw [hx] at h; cases h
    | some q =>
      rw [ddraw1_mono hg hx]; rw [hx] at h
      simp only at h ⊢
      split at h
      · rename_i hy; rw [ddraw_mono l _ _ _ _ hy]; exact h
      · cases h

theorem stepC_mono (c : IC) (s : St) (r) (h : stepC T f c s = some r) : stepC T g c s = some r := by
  cases c with
  | region ops => exact dops_mono hg _ _ _ h
  | draw ops =>
    simp only [stepC] at h ⊢
    cases hx : ddraw T f ops s.E s.own s.next with
    | none => rw [hx] at h; cases h
    | some q => rw [ddraw_mono hg _ _ _ _ _ hx]; rw [hx] at h; exact h
  | seq a b =>
    simp only [stepC] at h ⊢
    cases hx : f a s with
    | none => rw [hx] at h; cases h
    | some q =>
      rw [hg _ _ _ hx]; rw [hx] at h
      obtain ⟨x, s'⟩ := q
      cases x <;> first | exact hg _ _ _ h | exact h
  | cond x a b =>
    simp only [stepC] at h ⊢
    split at h
    · rename_i hx; (try rw [hx]); exact hg _ _ _ h
    · rename_i hx; (try rw [hx]); exact hg _ _ _ h
    · cases h
  | block id b =>
    simp only [stepC] at h ⊢
    cases hx : f b s with
    | none => rw [hx] at h; cases h
    | some q => rw [hg _ _ _ hx]; rw [hx] at h; exact h
  | loop b =>
    simp only [stepC] at h ⊢
    cases hx : f b s with
    | none => rw [hx] at h; cases h
    | some q =>
      rw [hg _ _ _ hx]; rw [hx] at h
      obtain ⟨x, s'⟩ := q
      cases x <;> first | exact hg _ _ _ h | exact h
  | scope l rest b =>
    simp only [stepC] at h ⊢
    cases hx : f b s with
    | none => rw [hx] at h; cases h
    | some q =>
      rw [hg _ _ _ hx]; rw [hx] at h
      obtain ⟨x, s'⟩ := q
      cases x <;> simp only at h ⊢ <;> first
        | exact h
        | (split at h
           · rename_i hl; rw [if_pos hl]; exact hg _ _ _ h
           · cases h)
  | rangeF nt x ps assign body =>
    simp only [stepC] at h ⊢
    split at h
    · rename_i hp
      rw [if_pos hp]
      split at h
      · rename_i hx
        try rw [hx]
        try simp only at h ⊢
        split at h
        · cases h
        · rename_i hpr
          rw [if_neg hpr]
          split at h
          · rename_i hy
            rw [dcall_mono hg hy]
            simp only at h ⊢
            split at h
            · rename_i hz; (try rw [hz]); exact h
            · rename_i hz; try rw [hz]
              try simp only at h ⊢
              split at h
              · rename_i hl; rw [if_pos hl]; exact hg _ _ _ h
              · cases h
            · cases h
          · cases h
      · cases h
    · cases h
  | _ => exact h
end

theorem dcode_mono {T : Tab} : ∀ (n m : Nat), n ≤ m → LeS (dcode T n) (dcode T m)
  | 0, m, _ => fun c s r h => by cases h
  | n + 1, m, hm => fun c s r h => by
    obtain ⟨k, rfl⟩ : ∃ k, m = k + 1 := ⟨m - 1, by omega⟩
    rw [dcode_succ] at h ⊢
    exact stepC_mono (dcode_mono n k (by omega)) c s r h

/-- A call that was evaluated. -/
theorem cp_eval {T : Tab} {f : Nat} {args : List D} {own own' : Tr Obj} {next next' : Nat} {out : Out} {Q : Out → Tr Obj → Nat → Prop} (n : Nat) (h : dcall T (dcode T n) f args own next = some (out, own', next')) (hq : Q out own' next') : Cp T f args own next Q :=
  cp_done n (fun m hm => dcall_mono (dcode_mono n m hm) h) hq
end Gv
