/- Part of the proof of ToolNumbers by an evaluator that is proved sound: B3. No condition of its own. -/
import Derived.Test.YtbhbbjgaahfinaaGreatDoorB2
set_option linter.unusedVariables false
set_option linter.unusedSimpArgs false
/-! Appends: of zeros to nil; of what surely finds room. -/
namespace Gv
open Go
set_option linter.unusedVariables false

section
variable {C : Cx} {h : HS} {P : Program}

theorem appz_sound (ok : OK C h) {sT xT ty e : TypeId} {k0 : IntKind} (hu : P.underlying sT = some (.slice e)) (hx : P.underlying xT = some (.int k0)) {size bytes : Nat} {z : D} (he : ElemOK P e size bytes z) {n : Int}
    (h0 : 0 < n) (h1 : n ≤ 2 ^ 40) (h2 : n * bytes ≤ 2 ^ 45) :
    Yields C P h (Builtin.append_ #[sT, xT] ty #[.slice none 0 0, .int .i64 n]) (.own h.next 0 n.toNat none) (h.own.put h.next (some (.arr e size (List.replicate n.toNat z)))) (h.next + 1) := by
  obtain ⟨zu, hz1, hz2, hz3, hz4⟩ := he.zero
  obtain ⟨i, hi1, hi2, hi3, hi4⟩ := he.ti
  have hpos := he.pos
  obtain ⟨m, rfl⟩ : ∃ m : Nat, n = m := ⟨n.toNat, by omega⟩
  have hw : IntKind.i64.wrap (m : Int) = m := wrap_small (by omega) (by omega)
  have hzs : zu.cells.size ≠ 0 := by omega
  have hzc : ∀ k, (Builtin.zeroCells zu.cells k).toList = (List.replicate k zu.cells.toList).flatten := fun k => zeros_list zu.cells hzs k
  have hre : RE C h size (List.replicate m z) (Builtin.zeroCells zu.cells m).toList := by
    rw [hzc]; exact RE_replicate hz3 hz4 (hz2 C h) m
  have hq : ∃ cap, m ≤ cap ∧ (Builtin.append_ #[sT, xT] ty #[.slice none 0 0, .int .i64 (m : Int)]).run P h.w =
      .ok (.slice (some ⟨h.w.heap.size, 0, none⟩) m cap) { h.w with drawn := h.w.drawn + 1, heap := h.w.heap.push (.cells (Builtin.zeroCells zu.cells m ++ Builtin.zeroCells zu.cells (cap - m)) e (0, 0)) } := by
    refine ⟨(Question.appendCap (0 + m) 0 e).cut (h.w.tape h.w.drawn (.appendCap (0 + m) 0 e)), by simp only [Question.cut]; omega, ?_⟩
    have h2' : m * bytes ≤ 2 ^ 45 := by exact_mod_cast h2
    have hgs : ¬ (Builtin.nextslicecap (0 + m) 0 * bytes > 2 ^ 48) := by
      have := growslice_fits (need := 0 + m) (old := 0) (bytes := bytes) (by omega) (by simp only [Nat.zero_add]; omega)
      omega
    have hmx : ¬ (((0 + m : Nat) : Int) > IntKind.i64.max ∧ (True ∨ bytes = 0)) := by
      rintro ⟨h1, _⟩
      have : IntKind.i64.max = 2 ^ 63 - 1 := rfl
      rw [this] at h1; omega
    have hb : ¬ ((m : Int) * bytes > 2 ^ 48) := by omega
    have hneg : ¬ ((m : Int) < 0) := by omega
    have hfit : ¬ (0 + m ≤ 0) := by omega
    have hms : ¬ (m * size = 0) := by
      intro hh
      rcases Nat.mul_eq_zero.1 hh with hh | hh <;> omega
    have hu' := run_underlying hu h.w
    have hx' := run_underlying hx h.w
    simp only [Builtin.append_, List.getElem?_toArray, List.getElem?_cons_zero, List.getElem?_cons_succ, Sem.run_bind, hu', hx', Result.andThen_ok, he.sz, Sem.run_pure, if_true, asInt, asIntOf, hw, hneg, if_false, hi1, hi2, hb, Int.toNat_natCast, hfit]
    rw [if_neg (by simpa using hmx)]
    simp only [Sem.run_bind, hi1, hi2, Result.andThen_ok]
    rw [if_neg hgs]
    simp only [Sem.run_bind, hi1, hi2, Result.andThen_ok, run_choose, Question.forced, run_askRoom, hz1, newRow, run_newObj, Bool.false_eq_true, if_false, Sem.run_pure, Builtin.firstCells, Bool.not_true, hms]
    simp
  obtain ⟨cap, hcap, hrun⟩ := hq
  have hg := grow_sound (P := P) ok he hz3 hre cap (by simpa using hcap) (by simp; unfold top; omega)
  refine ⟨_, _, ?_, by simpa using hg.1, rfl, rfl, hg.2.1, hg.2.2⟩
  rw [hrun]
  simp [HS.grow, HS.alloc, HS.drew]
  exact ⟨rfl, rfl, rfl⟩

/-- The tail of an object is forgotten. -/
def HS.cut (h : HS) (id ty size : Nat) (xs : List D) : HS := { h with own := h.own.put id (some (.arr ty size xs)) }

theorem Ext.cut (ok : OK C h) {id ty size : Nat} {xs : List D} (ho : h.own.get id = some (.arr ty size xs)) (ys : List D) : Ext h (h.cut id ty size ys) where
  size := Nat.le_refl _
  os := rfl
  tape := rfl
  output := rfl
  old := fun _ _ _ => rfl
  next := Nat.le_refl _
  M := fun _ _ => rfl
  live := fun i o' hid hg => by
    simp only [HS.cut] at hg
    by_cases hi : i = id
    · subst hi; rw [Tr.get_put_eq] at hg; cases hg; exact ⟨_, ho, by simp [Obj.sim]⟩
    · rw [Tr.get_put_ne _ _ hi] at hg; exact ⟨o', hg, o'.sim_refl⟩
  newb := fun i o' hg => by
    simp only [HS.cut] at hg
    by_cases hi : i = id
    · subst hi; exact .inl ⟨_, _, ho, rfl⟩
    · rw [Tr.get_put_ne _ _ hi] at hg; exact .inl ⟨i, o', hg, rfl⟩
  cells := fun b c e f hc => ⟨c, f, hc, rfl⟩

theorem OK.cut (ok : OK C h) {id ty size : Nat} {xs : List D} (ho : h.own.get id = some (.arr ty size xs)) (k : Nat) : OK C (h.cut id ty size (xs.take k)) := by
  have hext := Ext.cut ok ho (xs.take k)
  have lv : ∀ i o', (h.cut id ty size (xs.take k)).own.get i = some o' → (i = id ∧ o' = .arr ty size (xs.take k)) ∨ (i ≠ id ∧ h.own.get i = some o') := by
    intro i o' hg
    simp only [HS.cut] at hg
    by_cases hi : i = id
    · subst hi; rw [Tr.get_put_eq] at hg; cases hg; exact .inl ⟨rfl, rfl⟩
    · rw [Tr.get_put_ne _ _ hi] at hg; exact .inr ⟨hi, hg⟩
  refine ⟨?_, ?_, ok.X, ?_⟩
  · intro i o' hg
    rcases lv i o' hg with ⟨rfl, rfl⟩ | ⟨hi, hg'⟩
    · obtain ⟨h1, h2, h3, c, h4, pre, cs, rest, h5, h6, h7⟩ := ok.id i _ ho
      refine ⟨h1, h2, h3, c, h4, pre, cs.take (k * size), cs.drop (k * size) ++ rest, ?_, h6, (h7.take k).ext hext⟩
      rw [h5, ← List.append_assoc (cs.take _), List.take_append_drop]
    · obtain ⟨h1, h2, h3, h4⟩ := ok.id i o' hg'
      exact ⟨h1, h2, h3, h4.keep hext rfl rfl⟩
  · intro i j oi oj hi hj hM
    have ex : ∀ k o', (h.cut id ty size (xs.take _)).own.get k = some o' → ∃ o'', h.own.get k = some o'' := fun q o' hq => by
      rcases lv q o' hq with ⟨rfl, _⟩ | ⟨_, hh⟩
      · exact ⟨_, ho⟩
      · exact ⟨_, hh⟩
    obtain ⟨a, ha⟩ := ex i oi hi
    obtain ⟨b, hb⟩ := ex j oj hj
    exact ok.inj i j a b ha hb hM
  · intro i ty' size' xs' hg
    refine ok.dvd_old hext ?_ hg
    rcases lv i _ hg with ⟨rfl, _⟩ | ⟨_, hh⟩
    · exact (ok.id _ _ ho).1
    · exact (ok.id _ _ hh).1

theorem dappIn_sound (ok : OK C h) {sT xT ty e : TypeId} (ht : AppTy P sT xT e) {size bytes : Nat} {z : D} (he : ElemOK P e size bytes z) {s x : D} {us ux : Value} (hs : R C h s us) (hx : R C h x ux)
    {d : D} {own' : Tr Obj} {next' : Nat} (hd : dappIn h.own h.next e size bytes s x = some (d, own', next')) : Yields C P h (Builtin.append_ #[sT, xT] ty #[us, ux]) d own' next' := by
  unfold dappIn at hd
  split at hd
  · rename_i id off n cap
    split at hd
    · rename_i ty' size' xs ho
      split at hd
      · have hext := Ext.cut ok ho (xs.take (off + n))
        have hd' : dappend (h.cut id ty' size' (xs.take (off + n))).own (h.cut id ty' size' (xs.take (off + n))).next e size bytes (.own id off n cap) x = some (d, own', next') := hd
        obtain ⟨v, h', g1, g2, g3, g4, g5, g6⟩ := dappend_sound (ty := ty) (OK.cut ok ho (off + n)) ht he (hs.ext hext) (hx.ext hext) hd'
        exact ⟨v, h', g1, g2, g3, g4, hext.trans g5, g6⟩
      · cases hd
    · cases hd
  · cases hd
end
end Gv
