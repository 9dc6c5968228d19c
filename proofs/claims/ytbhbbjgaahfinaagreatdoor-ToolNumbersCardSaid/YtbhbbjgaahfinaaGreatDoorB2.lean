/- Part of the proof of ToolNumbers by an evaluator that is proved sound: B2. No condition of its own. -/
import Derived.Test.YtbhbbjgaahfinaaGreatDoorB1
set_option linter.unusedVariables false
set_option linter.unusedSimpArgs false
/-! Bytes seen as a string. -/
namespace Gv
open Go
set_option linter.unusedVariables false

section
variable {C : Cx} {h : HS} {P : Program}

/-- An object is gone; of its block the frozen part has grown. -/
def HS.freeze (h : HS) (id : Nat) (off n : Nat) : HS := { h with own := h.own.put id none, w := h.w.freeze ⟨(h.M id).1, off, none⟩ n }

theorem freeze_other {w : World} {b b' off n : Nat} (hb : b' ≠ b) : (w.freeze ⟨b, off, none⟩ n).heap[b']? = w.heap[b']? := by
  unfold World.freeze
  split
  · rfl
  · simp [Array.getElem?_modify, Ne.symm hb]
theorem freeze_self {w : World} {b off n : Nat} {c : Array Value} {e : TypeId} {f : Nat × Nat} (hc : w.heap[b]? = some (.cells c e f)) : ∃ f', (w.freeze ⟨b, off, none⟩ n).heap[b]? = some (.cells c e f') := by
  unfold World.freeze
  split
  · exact ⟨f, hc⟩
  · obtain ⟨lo, hi⟩ := f
    simp [Array.getElem?_modify, hc]
theorem freeze_size {w : World} {a : Addr} {n : Nat} : (w.freeze a n).heap.size = w.heap.size := by
  unfold World.freeze; split <;> simp
theorem freeze_rest {w : World} {a : Addr} {n : Nat} : (w.freeze a n).os = w.os ∧ (w.freeze a n).tape = w.tape ∧ (w.freeze a n).output = w.output := by
  unfold World.freeze; split <;> exact ⟨rfl, rfl, rfl⟩

theorem Ext.freeze (ok : OK C h) {id ty size : Nat} {xs : List D} (ho : h.own.get id = some (.arr ty size xs)) (off n : Nat) : Ext h (h.freeze id off n) where
  size := by simp [HS.freeze, freeze_size]
  os := freeze_rest.1
  tape := freeze_rest.2.1
  output := freeze_rest.2.2
  old := fun b hb hn => freeze_other (fun e => hn ⟨id, _, ho, e.symm⟩)
  next := Nat.le_refl _
  M := fun _ _ => rfl
  live := fun i o' hid hg => ⟨o', (kill_get (h := h) (id := id) hg).2, o'.sim_refl⟩
  newb := fun i o' hg => .inl ⟨i, o', (kill_get (h := h) (id := id) hg).2, rfl⟩
  cells := fun b c e f hc => by
    by_cases hb : b = (h.M id).1
    · subst hb
      obtain ⟨f', hf⟩ := freeze_self (off := off) (n := n) hc
      exact ⟨c, f', hf, rfl⟩
    · exact ⟨c, f, by simp only [HS.freeze]; rw [freeze_other hb]; exact hc, rfl⟩

theorem OK.freeze (ok : OK C h) {id ty size : Nat} {xs : List D} (ho : h.own.get id = some (.arr ty size xs)) (off n : Nat) : OK C (h.freeze id off n) where
  id := fun i o' hg => by
    obtain ⟨hne, hg'⟩ := kill_get (h := h) (id := id) hg
    obtain ⟨h1, h2, h3, h4⟩ := ok.id i o' hg'
    refine ⟨h1, by simp [HS.freeze, freeze_size]; exact h2, h3, h4.keep (Ext.freeze ok ho off n) rfl ?_⟩
    exact freeze_other (fun e => hne (ok.inj i id _ _ hg' ho e))
  inj := fun i j oi oj hi hj hM => ok.inj i j oi oj (kill_get (h := h) (id := id) hi).2 (kill_get (h := h) (id := id) hj).2 hM
  X := fun b hb => by simp [HS.freeze, freeze_size]; exact ok.X b hb
  dvd := fun i ty size xs hg => ok.dvd _ _ _ _ (kill_get (h := h) (id := id) hg).2

theorem ustr_sound (ok : OK C h) {pT it ty t : TypeId} (hu : P.underlying pT = some (.pointer t)) (ht : P.underlying t = some (.int .u8)) (hs : tsize P t = some 1) {p n d : D} {up un : Value} (hp : R C h p up) (hn : R C h n un)
    {own' : Tr Obj} {next' m : Nat} (hm : natOf n = some m) (hd : dustr h.own h.next t m p = some (d, own', next')) : Yields C P h (Builtin.unsafeString_ #[pT, it] ty #[up, un]) d own' next' := by
  have hmax : IntKind.i64.max = 9223372036854775807 := rfl
  obtain ⟨k, rfl⟩ := natOf_sound hn hm
  unfold dustr at hd
  split at hd
  · have hm0 : m = 0 := by
      by_cases hm0 : m = 0
      · exact hm0
      · rw [if_neg hm0] at hd; cases hd
    rw [if_pos hm0] at hd
    subst hm0
    simp only [Option.some.injEq, Prod.mk.injEq] at hd
    obtain ⟨rfl, rfl, rfl⟩ := hd
    simp only [R] at hp
    subst hp
    have hdef : Builtin.unsafeString_ #[pT, it] ty #[.pointer none, .int k ((0 : Nat) : Int)] =
        (do
          let n ← asInt (.int k ((0 : Nat) : Int))
          if n < 0 then runtimePanic (.error "unsafe.String: len out of range")
          if n > IntKind.i64.max then unsupported (.unsafePointer "String: a length above the largest int")
          if n = 0 then pure (.string .empty)
          else runtimePanic (.error "unsafe.String: ptr is nil and len is not zero")) := rfl
    refine Yields.same ok (v := .string .empty) (by rw [hdef]; simp [asInt, asIntOf, hmax]) ?_
    simp only [R]
    exact ⟨.empty, rfl, rfl, by simp⟩
  · rename_i id i
    split at hd
    · rename_i ty' xs ho
      split at hd
      · rename_i hc
        obtain ⟨rfl, hi, hm0, hm1⟩ := hc
        obtain ⟨ns, hns, hd⟩ := some1 hd
        simp only [Option.some.injEq, Prod.mk.injEq] at hd
        obtain ⟨rfl, rfl, rfl⟩ := hd
        simp only [R] at hp
        have hu1 := hp.2.2 _ _ _ ho
        subst hu1
        obtain ⟨c, g1, g2, g3, g4⟩ := elem_in ok ho (by omega) m hi
        have hlies := liesAt_elem (P := P) hs (by omega) g2 g3
        have hsh : h.w.shape? (h.M id).1 = some (ty', c.size) := by simp [World.shape?, g1]
        have hcell : P.cellsOf ty' = 1 := by
          simp only [tsize, Option.map_eq_some_iff] at hs
          obtain ⟨j, hj, hj2⟩ := hs
          simp [Program.cellsOf, hj, hj2]
        obtain ⟨_, _, _, c0, h9, pre, cs, rest, h10, h11, h12⟩ := ok.id id _ ho
        rw [g1] at h9
        simp only [Option.some.injEq, Go.Obj.cells.injEq] at h9
        obtain ⟨rfl, _⟩ := h9
        have hre := (h12.drop i).take m
        obtain ⟨e1, e2⟩ := unbytes_sound hre hns
        have hl : ns.length = m := by
          have := hre.length
          rw [e1] at this
          simp at this; omega
        let l : List UInt8 := ns.map UInt8.ofNat
        have hll : l.length = m := by simp [l, hl]
        have htn : ∀ n ∈ ns, (UInt8.ofNat n).toNat = n := fun n hn => by
          have := e2 n hn
          simp [UInt8.toNat_ofNat']; omega
        have hcells : ∀ j x, l[j]? = some x → h.w.cell? ((⟨(h.M id).1, (h.M id).2 + i * 1, none⟩ : Addr).add j) = some (.int .u8 x.toNat) := by
          intro j x hj
          have hjl : j < m := by
            rw [← hll]; exact (List.getElem?_eq_some_iff.1 hj).1
          have hcs : (cs.drop (i * 1)).take (m * 1) = ns.map fun (n : Nat) => Value.int .u8 n := e1
          have hcl : cs.length = xs.length * 1 := h12.length
          have hx : x = UInt8.ofNat (ns[j]'(by omega)) := by
            have := (List.getElem?_eq_some_iff.1 hj).2
            simp [l] at this; exact this.symm
          have hget : cs[i + j]? = some (.int .u8 x.toNat) := by
            have : ((cs.drop (i * 1)).take (m * 1))[j]? = (ns.map fun (n : Nat) => Value.int .u8 n)[j]? := by rw [hcs]
            rw [List.getElem?_take_of_lt (by omega), List.getElem?_drop, List.getElem?_map, List.getElem?_eq_getElem (by omega : j < ns.length)] at this
            simp only [Nat.mul_one, Option.map_some] at this
            rw [this, hx, htn _ (List.getElem_mem _)]
          have hadd : (⟨(h.M id).1, (h.M id).2 + i * 1, none⟩ : Addr).add j = ⟨(h.M id).1, (h.M id).2 + i + j, none⟩ := by
            unfold Addr.add; split <;> simp_all
          rw [hadd]
          simp only [World.cell?, g1, Option.isSome_none, Bool.false_eq_true, if_false]
          rw [← Array.getElem?_toList, h10, ← h11, List.getElem?_append_right (by omega), show pre.length + i + j - pre.length = i + j by omega, List.getElem?_append_left (by omega)]
          exact hget
        have hload := Lib.run_loadBytes (P := P) h.w l ⟨(h.M id).1, (h.M id).2 + i * 1, none⟩ .empty hcells
        rw [hll] at hload
        have hdef : Builtin.unsafeString_ #[pT, it] ty #[.pointer (some ⟨(h.M id).1, (h.M id).2 + i * 1 + 0, none⟩), .int k (m : Int)] =
          (do
            let n ← asInt (.int k (m : Int))
            if n < 0 then runtimePanic (.error "unsafe.String: len out of range")
            if n > IntKind.i64.max then unsupported (.unsafePointer "String: a length above the largest int")
            if n = 0 then pure (.string .empty)
            else if ← variablesAt ⟨(h.M id).1, (h.M id).2 + i * 1 + 0, none⟩ (← elemOf pT) n.toNat then do
              let s ← loadBytes ⟨(h.M id).1, (h.M id).2 + i * 1 + 0, none⟩ .empty n.toNat
              freeze ⟨(h.M id).1, (h.M id).2 + i * 1 + 0, none⟩ n.toNat
              pure (.string s)
            else unsupported (.unsafePointer "String: not so many bytes at ptr")) := rfl
        have h63' : ¬ (9223372036854775807 : Int) < (m : Int) := by omega
        have hneg : ¬ (m : Int) < 0 := by omega
        have hm2 : ¬ m = 0 := by omega
        have hlies' := hlies
        have hload' := hload
        simp only [Nat.mul_one, Nat.div_one] at hlies' hload'
        have he : (ByteArray.empty.data ++ l.toArray) = l.toArray := by show (#[] : Array UInt8) ++ l.toArray = l.toArray; simp
        rw [he] at hload'
        refine ⟨.string ⟨l.toArray⟩, h.freeze id ((h.M id).2 + i) m, ?_, ?_, rfl, rfl, Ext.freeze ok ho _ _, OK.freeze ok ho _ _⟩
        · rw [hdef]
          simp [asInt, asIntOf, hmax, h63', hneg, hm2, variablesAt, hsh, elemOf, run_underlying hu, hcell, hlies', hload', HS.freeze]
        · simp only [R]
          refine ⟨⟨l.toArray⟩, rfl, ?_, by simp only [top]; omega⟩
          simp only [l, List.map_map]
          conv => rhs; rw [← List.map_id ns]
          exact List.map_congr_left (fun n hn => htn n hn)
      · cases hd
    · cases hd
  · cases hd
end
end Gv
