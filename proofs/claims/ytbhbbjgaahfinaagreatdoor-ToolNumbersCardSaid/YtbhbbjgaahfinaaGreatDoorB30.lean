/- Part of the proof of ToolNumbers by an evaluator that is proved sound: B30. No condition of its own. -/
import Derived.Lib.LaidU8
import Derived.ChangeSame
import Derived.Test.YtbhbbjgaahfinaaGreatDoorB29
set_option linter.unusedVariables false
set_option linter.unusedSimpArgs false
/-! From a row's world to the evaluator's start, and back to the row's promise. -/
namespace Gv
open Go Go.ChangeShapes
set_option linter.unusedVariables false

def litD : Lit → D
  | .int k n => .v (.int k n)
  | .string bs => .str (bs.map UInt8.toNat)
  | _ => .junk

/-- The start: no object yet. -/
def start (W : World) : HS := ⟨.nil, 0, fun _ => (0, 0), W⟩
def Cs (P : Program) (G : Glob) : Cx := ⟨fun _ => False, fun nt c ic => ccode P G nt c = some ic⟩

section
variable {P : Program} {G : Glob} {T : Tab} {W : World}

theorem start_ok : OK (Cs P G) (start W) where
  id := fun id o h => by simp [start] at h
  inj := fun i j oi oj h => by simp [start] at h
  X := fun b h => h.elim
  dvd := fun id ty size xs h => by simp [start] at h
theorem start_free (b : Nat) : ¬ (start W).owned b := fun ⟨id, o, h, _⟩ => by simp [start] at h

variable {H : Type} {enc : TypeId × Value → H} {base : Nat} {sp : Nat → Bool} {held : Bool}

theorem lit_cell {C : Cx} {h : HS} {fuel : Nat} {t : TypeId} {v : Value} {l : Lit} {p : List MemPlace} (ht : (∃ k, P.underlying t = some (.int k)) ∨ P.underlying t = some .string) (hs : ∀ bs, l = .string bs → bs.length ≤ top)
    (hd : DataW.trod enc P W base sp held fuel t [v] = some (.lit l, p)) : R C h (litD l) v ∧ v.oneCell' = true := by
  cases fuel with
  | zero => simp [DataW.trod] at hd
  | succ n =>
    rcases ht with ⟨k, ht⟩ | ht
    · cases v <;> simp only [DataW.trod, ht, reduceCtorEq] at hd
      by_cases hc : ‹IntKind› = k ∧ (Lit.int k ‹Int›).wf = true
      · rw [if_pos hc] at hd
        simp only [Option.some.injEq, Prod.mk.injEq, DataW.lit.injEq] at hd
        obtain ⟨h1, _⟩ := hd
        subst h1
        obtain ⟨h2, _⟩ := hc
        subst h2
        exact ⟨by simp only [litD, R], rfl⟩
      · rw [if_neg hc] at hd; cases hd
    · cases v <;> simp only [DataW.trod, ht, reduceCtorEq] at hd
      by_cases hc : (‹ByteArray›).size ≤ maxLen
      · rw [if_pos hc] at hd
        simp only [Option.some.injEq, Prod.mk.injEq, DataW.lit.injEq] at hd
        obtain ⟨h1, _⟩ := hd
        have h3 := hs _ h1.symm
        subst h1
        refine ⟨?_, rfl⟩
        simp only [litD, R]
        exact ⟨_, rfl, rfl, by rw [List.length_map]; exact h3⟩
      · rw [if_neg hc] at hd; cases hd

theorem RL_pt {C : Cx} {h : HS} : ∀ (ds : List D) (cs : List Value), ds.length = cs.length → (∀ (i : Nat) d c, ds[i]? = some d → cs[i]? = some c → R C h d c ∧ c.oneCell' = true) → RL C h true ds cs
  | [], [], _, _ => by simp [RL]
  | d :: ds, c :: cs, hl, hp => by
    simp only [RL]
    refine ⟨c, cs, rfl, fun _ => (hp 0 d c rfl rfl).2, (hp 0 d c rfl rfl).1, RL_pt ds cs (by simpa using hl) fun i d' c' h1 h2 => hp (i + 1) d' c' (by simpa using h1) (by simpa using h2)⟩

theorem lits_cells {C : Cx} {h : HS} {fuel n : Nat} {t e : TypeId} {cs : List Value} {ls : List Lit} {p : List MemPlace} (ht : P.underlying t = some (.array n e)) (he : (∃ k, P.underlying e = some (.int k)) ∨ P.underlying e = some .string)
    (hce : P.cellsOf e = 1) (hct : P.cellsOf t = n) (hs : ∀ l ∈ ls, ∀ bs, l = .string bs → bs.length ≤ top) (hd : DataW.trod enc P W base sp held fuel t cs = some (.agg (ls.map .lit), p)) : RL C h true (ls.map litD) cs := by
  cases fuel with
  | zero => simp [DataW.trod] at hd
  | succ fuel =>
    simp only [DataW.trod, ht, hce, hct, Nat.mul_one] at hd
    split at hd
    · rename_i hl
      obtain ⟨xs, hm, hx⟩ := Option.map_eq_some_iff.1 hd
      have hxs : xs.map (·.1) = ls.map fun l => (DataW.lit l : DataW H) := by
        have := congrArg Prod.fst hx
        simpa using this
      have hxl : xs.length = n := by simpa using Lib.mapM_length hm
      have hll : ls.length = n := by
        have := congrArg List.length hxs
        simp at this; omega
      refine RL_pt _ _ (by simp; omega) fun i d c h1 h2 => ?_
      obtain ⟨hi, rfl⟩ := List.getElem?_eq_some_iff.1 h2
      obtain ⟨b, hb, hf⟩ := Lib.mapM_at hm i i (by rw [List.getElem?_range (by omega)])
      have e1 : (cs.drop i).take 1 = [cs[i]] := by rw [List.drop_eq_getElem_cons hi]; rfl
      rw [e1] at hf
      rw [List.getElem?_map, Option.map_eq_some_iff] at h1
      obtain ⟨l, hli, rfl⟩ := h1
      have e2 : (xs.map (·.1))[i]? = some (DataW.lit l : DataW H) := by rw [hxs, List.getElem?_map, hli]; rfl
      rw [List.getElem?_map, hb] at e2
      simp only [Option.map_some, Option.some.injEq] at e2
      obtain ⟨b1, b2⟩ := b
      subst e2
      exact lit_cell he (hs l (List.mem_of_getElem? hli)) hf
    · cases hd

theorem start_g {n : String} {g : Nat} {t e : TypeId} {m : Nat} {ls : List Lit} (hg : P.globalNamed n = some g) (hty : (P.globals[g]?).map (·.type) = some t) (ht : P.underlying t = some (.array m e))
    (he : (∃ k, P.underlying e = some (.int k)) ∨ P.underlying e = some .string) (hce : P.cellsOf e = 1) (hct : P.cellsOf t = m) (hs : ∀ l ∈ ls, ∀ bs, l = .string bs → bs.length ≤ top) (h : Lib.VarReads P W n (.agg (ls.map .lit))) :
    R (Cs P G) (start W) (.ep (ls.map litD)) (.pointer (some ⟨g, 0, none⟩)) := by
  obtain ⟨g', t', cs, fuel, p, h1, h2, h3, h4⟩ := h
  obtain rfl := Option.some.inj (hg.symm.trans h1)
  obtain rfl := Option.some.inj (hty.symm.trans h2)
  simp only [R]
  refine ⟨g, 0, cs.toList, rfl, ⟨?_, start_free g, fun hx => hx.elim⟩, ?_, lits_cells ht he hce hct hs h4⟩
  · simp only [World.var?, hg, Option.bind_some] at h3
    split at h3
    · rename_i hc
      obtain ⟨hlt, _⟩ := Array.getElem?_eq_some_iff.1 hc
      exact hlt
    · cases h3
  · intro k hk
    simp only [World.var?, hg, Option.bind_some] at h3
    split at h3
    · rename_i c0 a0 b0 hc
      simp only [Option.some.injEq] at h3
      subst h3
      simp only [start, Nat.zero_add]
      simp only [Array.length_toList] at hk
      simp [World.cell?, hc, hk]
    · cases h3

/-- What was there is there still. -/
def Kept (W W' : World) : Prop := W'.os = W.os ∧ W'.output = W.output ∧ ∀ b, b < W.heap.size → W'.heap[b]? = W.heap[b]?

/-- A law that the evaluator answers with true. -/
theorem calls_of_eval (ts : TabSound P G T) (hg : GOK G (Cs P G) (start W)) {f : Nat} {args : List D} {us : Array Value} (hp : T.prim f = none) (hc : Cp T f args .nil 0 (fun o _ _ => o = .ok (.v (.bool true))))
    (hr : RL (Cs P G) (start W) false args us.toList) : Calls P f us W fun e W' => e = .returned (.bool true) ∧ Kept W W' := by
  obtain ⟨out, own', next', rfl, n, hn⟩ := hc
  have hd := hn n (Nat.le_refl _)
  have := ((call_ok (self_ok ts n) ts.tab ts.prims) f args .nil 0 _ own' next' hd (Cs P G) (start W) us rfl hg start_ok rfl rfl hr).2 hp
  have h2 := this.2 none 0 (fun e W' => e = .returned (.bool true) ∧ Kept W W') fun v h' _ _ e ok hv => by
    simp only [R] at hv
    subst hv
    exact ⟨rfl, e.os, e.output, fun b hb => e.old b hb (start_free b)⟩
  exact (callsIn_wide (n := 0)).1 h2

/-- The promise of a law whose arguments hold no place. -/
theorem post_plain {f : Func} {s : ChangeSpec} {apart fresh handsOn again : Bool} {W W' : World} {args : Array Value} {v : Value} {ds gs : List (DataW H)}
    (hW : DataW.Whole enc P f.params.toList s.vars apart W args.toList ds gs [])
    (hres : ∀ (b : Nat) (sp : Nat → Bool) (hd : Bool), DataW.TrodAll enc P W' b sp hd f.resultTypes.toList (v.resultList f.resultTypes.size) (s.fn H (ds ++ gs)).results [])
    (hargs : ∀ sp : Nat → Bool, DataW.TrodAll enc P W' 0 sp true f.params.toList args.toList (s.fn H (ds ++ gs)).args [])
    (hvars : ∀ sp : Nat → Bool, DataW.TrodVars enc P W' sp s.vars (s.fn H (ds ++ gs)).vars []) (hk : Kept W W')
    (hok : ∀ (j : Nat) (t : TypeId) (r : Value), f.resultTypes[j]? = some t → (v.resultList f.resultTypes.size)[j]? = some r → Value.okWide P W' .any 0 t r) :
    s.post enc P f apart fresh handsOn again W args v W' := by
  have hkb : W.keptBut W' (fun _ => False) := by
    refine ⟨hk.1, hk.2.1, fun i hi => ?_⟩
    rw [hk.2.2 i hi]
    cases hx : W.heap[i]? with
    | none => simp
    | some o => cases o <;> simp
  refine ⟨ds, gs, [], [], [], [], hW, hres _ _ _, hargs _, hvars _, World.keptBut_mono (fun p hp => hp.elim) hkb, fun _ => ?_⟩
  refine ⟨hok, _, _, [], ⟨[], [], trodAll_append (hargs _) (hres _ _ _), hvars _, rfl, ?_, ?_⟩, ?_⟩
  · intro b off hp; cases hp
  · intro _; exact List.nodup_nil
  · intro p hp; cases hp
end
end Gv
