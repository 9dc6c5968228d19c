/- Part of the proof of ToolNumbers by an evaluator that is proved sound: W2. No condition of its own. -/
import Derived.Test.YtbhbbjgaahfinaaGreatDoorW1
set_option linter.unusedVariables false
set_option linter.unusedSimpArgs false
/-! strings.FieldsFunc at blanks. -/
namespace Gv
open Go
set_option linter.unusedVariables false
set_option linter.unusedSimpArgs false
variable {T : Tab}

/-! ### Where words begin and end -/
def spF : List Nat → Nat → Option Nat → List (Nat × Nat)
  | [], p, none => []
  | [], p, some a => [(a, p)]
  | c :: cs, p, st => if c = 32 then (match st with | none => spF cs (p + 1) none | some a => (a, p) :: spF cs (p + 1) none) else spF cs (p + 1) (some (st.getD p))
def cutW (s : List Nat) (ab : Nat × Nat) : List Nat := (s.drop ab.1).take (ab.2 - ab.1)
def wordsL (s : List Nat) : List (List Nat) := (spF s 0 none).map (cutW s)

theorem spF_skip {s : List Nat} : ∀ (w p : Nat) (st : Option Nat), 1 ≤ w → p + w ≤ s.length → (∀ j x, j < w → s[p + j]? = some x → x ≠ 32) → spF (s.drop p) p st = spF (s.drop (p + w)) (p + w) (some (st.getD p))
  | 0, p, st, h, _, _ => by omega
  | w + 1, p, st, _, hle, hx => by
    have hp : p < s.length := by omega
    rw [List.drop_eq_getElem_cons hp]
    simp only [spF]
    rw [if_neg (hx 0 s[p] (by omega) (by simp [hp]))]
    by_cases hw : w = 0
    · subst hw; rfl
    · rw [spF_skip w (p + 1) (some (st.getD p)) (by omega) (by omega) (fun j x hj hxj => hx (j + 1) x (by omega) (by rw [← hxj]; congr 1; omega))]
      simp only [Option.getD_some]
      rw [show p + 1 + w = p + (w + 1) by omega]
theorem spF_blank {s : List Nat} {p : Nat} (hp : s[p]? = some 32) (st : Option Nat) : spF (s.drop p) p st = (match st with | none => [] | some a => [(a, p)]) ++ spF (s.drop (p + 1)) (p + 1) none := by
  obtain ⟨hlt, he⟩ := List.getElem?_eq_some_iff.1 hp
  rw [List.drop_eq_getElem_cons hlt, he]
  simp only [spF, if_true]
  cases st <;> rfl
theorem spF_end {s : List Nat} {p : Nat} (hp : p = s.length) (st : Option Nat) : spF (s.drop p) p st = (match st with | none => [] | some a => [(a, p)]) := by
  subst hp
  rw [List.drop_length]
  cases st <;> rfl

/-- What one rune is. -/
theorem decode_spec {s : List Nat} {p : Nat} (hp : p < s.length) : ∃ c w, decodeAt (fun j => s.getD j 0) s.length p = (c, w) ∧ 1 ≤ w ∧ p + w ≤ s.length ∧
    ((s[p]? = some 32 ∧ c = 32 ∧ w = 1) ∨ (c ≠ 32 ∧ ∀ j x, j < w → s[p + j]? = some x → x ≠ 32)) := by
  have get : ∀ j, p + j < s.length → s[p + j]? = some (s.getD (p + j) 0) := fun j hj => by simp [List.getD_eq_getElem?_getD, List.getElem?_eq_getElem hj]
  have one : s.getD (p + 0) 0 ≠ 32 → ∀ j x, j < 1 → s[p + j]? = some x → x ≠ 32 := by
    intro hne j x hj hx
    obtain rfl : j = 0 := by omega
    rw [get 0 (by omega)] at hx
    simp only [Option.some.injEq] at hx
    rw [← hx]; exact hne
  unfold decodeAt
  simp only
  split
  · rename_i h
    by_cases h32 : s.getD (p + 0) 0 = 32
    · exact ⟨_, _, rfl, by omega, by omega, .inl ⟨by rw [← h32]; exact get 0 (by omega), h32, rfl⟩⟩
    · exact ⟨_, _, rfl, by omega, by omega, .inr ⟨h32, one h32⟩⟩
  · rename_i hb
    have hne : s.getD (p + 0) 0 ≠ 32 := by omega
    have err : ∃ c w, ((Utf8.runeError, 1) : Nat × Nat) = (c, w) ∧ 1 ≤ w ∧ p + w ≤ s.length ∧ ((s[p]? = some 32 ∧ c = 32 ∧ w = 1) ∨ (c ≠ 32 ∧ ∀ j x, j < w → s[p + j]? = some x → x ≠ 32)) :=
      ⟨_, _, rfl, by omega, by omega, .inr ⟨by decide, one hne⟩⟩
    have many : ∀ (c w : Nat), 1 ≤ w → c ≥ 128 → p + w ≤ s.length → (∀ j, 1 ≤ j → j < w → s.getD (p + j) 0 / 64 = 2) → ∃ c' w', ((c, w) : Nat × Nat) = (c', w') ∧ 1 ≤ w' ∧ p + w' ≤ s.length ∧ ((s[p]? = some 32 ∧ c' = 32 ∧ w' = 1) ∨ (c' ≠ 32 ∧ ∀ j x, j < w' → s[p + j]? = some x → x ≠ 32)) := by
      intro c w h1 h2 h3 h4
      refine ⟨c, w, rfl, h1, h3, .inr ⟨by omega, fun j x hj hx => ?_⟩⟩
      rw [get j (by omega)] at hx
      simp only [Option.some.injEq] at hx
      by_cases hj0 : j = 0
      · subst hj0; rw [← hx]; exact hne
      · have := h4 j (by omega) hj; omega
    split
    · rename_i h2
      simp only [Bool.and_eq_true, decide_eq_true_eq, beq_iff_eq] at h2
      split
      · rename_i h3
        exact many _ 2 (by omega) h3 (by omega) (fun j h5 h6 => by
          obtain rfl : j = 1 := by omega
          exact h2.2.2)
      · exact err
    · split
      · rename_i h2
        simp only [Bool.and_eq_true, decide_eq_true_eq, beq_iff_eq] at h2
        split
        · rename_i h3
          simp only [Bool.and_eq_true, decide_eq_true_eq] at h3
          refine many _ 3 (by omega) (by omega) (by omega) (fun j h5 h6 => ?_)
          have : j = 1 ∨ j = 2 := by omega
          rcases this with rfl | rfl
          · exact h2.1.2.2
          · exact h2.2.2
        · exact err
      · split
        · rename_i h2
          simp only [Bool.and_eq_true, decide_eq_true_eq, beq_iff_eq] at h2
          split
          · rename_i h3
            simp only [Bool.and_eq_true, decide_eq_true_eq] at h3
            refine many _ 4 (by omega) (by omega) (by omega) (fun j h5 h6 => ?_)
            have : j = 1 ∨ j = 2 ∨ j = 3 := by omega
            rcases this with rfl | rfl | rfl
            · exact h2.1.1.2.2
            · exact h2.1.2.2
            · exact h2.2.2
          · exact err
        · exact err

/-- An append of one element to a slice that is an object's all. -/
theorem dappend_one {own : Tr Obj} {next ty size bytes id n : Nat} {xs : List D} {y : D} {cs : List D} {cap : Option Nat} (h : own.get id = some (.arr ty size xs)) (hn : n = xs.length) (hy : y.cells? = some cs) (hc : cs.length = size)
    (h1 : (n + 1) * bytes ≤ 2 ^ 45) (h2 : n + 1 ≤ 2 ^ 45) : ∃ cap' own', dappend own next ty size bytes (.own id 0 n cap) (.sl .full [y]) = some (.own next 0 (n + 1) cap', own', next + 1) ∧ own'.get next = some (.arr ty size (xs ++ [y])) ∧
      (∀ j, j ≠ id → j ≠ next → own'.get j = own.get j) := by
  have hok : sizeOK size [y] = true := by simp [sizeOK, hy, hc]
  simp only [dappend, delems, hok, if_true, h, List.length_singleton, List.isEmpty_cons, Bool.false_eq_true, if_false, List.drop_zero]
  rw [if_pos ⟨by simp, by omega, h1, h2⟩]
  cases cap with
  | none => exact ⟨none, _, rfl, by simp, fun j h3 h4 => by rw [Tr.get_put_ne _ _ h4, Tr.get_put_ne _ _ h3]⟩
  | some c =>
    simp only
    split
    · exact ⟨some c, _, rfl, by simp, fun j h3 h4 => by rw [Tr.get_put_ne _ _ h4, Tr.get_put_ne _ _ h3]⟩
    · exact ⟨none, _, rfl, by simp, fun j h3 h4 => by rw [Tr.get_put_ne _ _ h4]⟩

theorem xor_neg (a : Nat) (h : a < 2 ^ 63) : IntKind.i64.wrap ((BitVec.ofInt 64 (-1) ^^^ BitVec.ofInt 64 (a : Int)).toNat : Int) = -(a : Int) - 1 := by
  have e : (BitVec.ofInt 64 (-1) ^^^ BitVec.ofInt 64 (a : Int)) = ~~~ (BitVec.ofNat 64 a) := by
    rw [show BitVec.ofInt 64 (-1) = BitVec.allOnes 64 from rfl, BitVec.ofInt_natCast, BitVec.allOnes_xor]
  rw [e, BitVec.toNat_not, BitVec.toNat_ofNat, Nat.mod_eq_of_lt (by omega)]
  simp [IntKind.wrap, IntKind.bits, IntKind.signed]; omega

def spD (ab : Nat × Nat) : D := .agg [.v (.int .i64 ab.1), .v (.int .i64 ab.2)]

/-- The spans' loop: what holds at its head. -/
def FI1 (s : List Nat) (own0 : Tr Obj) (next0 : Nat) (k : Nat) (st : St) : Prop := ∃ (E : Tr D) (own : Tr Obj) (nx p : Nat) (sp : List (Nat × Nat)) (so : Option Nat) (id iid : Nat) (cap : Option Nat) (z : Int),
  st = ⟨E, own, nx, []⟩ ∧ k + p = s.length ∧ E.get 0 = some (.str s) ∧ E.get 1 = some (.fn (.func 29) [] []) ∧ E.get 5 = some (.own id 0 sp.length cap) ∧ E.get 6 = some (.v (.int .i64 z)) ∧ E.get 14 = some (.it iid) ∧
  own.get id = some (.arr 85 2 (sp.map spD)) ∧ own.get iid = some (.it s p) ∧ id ≠ iid ∧ next0 ≤ id ∧ next0 ≤ iid ∧ id < nx ∧ iid < nx ∧ Kp own0 next0 own nx ∧
  sp ++ spF (s.drop p) p so = spF s 0 none ∧ (∀ ab ∈ sp, ab.1 ≤ ab.2 ∧ ab.2 ≤ s.length) ∧ sp.length ≤ p ∧ ((so = none ∧ z < 0 ∧ -9223372036854775808 ≤ z) ∨ ∃ a, so = some a ∧ z = (a : Int) ∧ a < p)

def rest28 : IC := .seq (.region [⟨(some 44), .mov (.t 5), none⟩, ⟨(some 45), .len false (.t 44), none⟩, ⟨(some 46), .mkslice 9 1 16 (.str []) (.t 45) (.t 45), none⟩, ⟨(some 9), .mov (.t 46), none⟩]) (.seq (.seq (.region [⟨(some 47), .mov (.t 5), none⟩, ⟨(some 48), .len false (.t 47), none⟩, ⟨(some 49), .mov (.k (.v (.int .i64 0))), none⟩]) (.block 2 (.loop (.seq (.region [⟨(some 50), .bin .lss .sc (.t 49) (.t 48), none⟩]) (.seq (.cond (.t 50) .skip (.exit 2)) (.seq (.block 3 (.seq (.region [⟨(some 51), .mov (.t 49), none⟩, ⟨(some 52), .iadr (.sl 2) (.t 47) (.t 49), none⟩, ⟨(some 53), .load (some 2) (.t 52), none⟩, ⟨(some 11), .alloc 85 (.agg [(.v (.int .i64 0)), (.v (.int .i64 0))]), none⟩, ⟨(some 10), .mov (.t 51), none⟩, ⟨none, .store 2 (.t 11) (.t 53), none⟩]) (.region [⟨(some 54), .mov (.t 9), none⟩, ⟨(some 55), .mov (.t 10), none⟩, ⟨(some 56), .mov (.t 0), none⟩, ⟨(some 57), .fadr 0 (.t 11), none⟩, ⟨(some 58), .load none (.t 57), none⟩, ⟨(some 59), .fadr 1 (.t 11), none⟩, ⟨(some 60), .load none (.t 59), none⟩, ⟨(some 61), .slice .str (.t 56) (some (.t 58)) (some (.t 60)) none, none⟩, ⟨(some 62), .iadr (.sl 1) (.t 54) (.t 55), none⟩, ⟨none, .store 1 (.t 62) (.t 61), none⟩]))) (.region [⟨(some 63), .bin .add .sc (.t 49) (.k (.v (.int .i64 1))), none⟩, ⟨(some 49), .mov (.t 63), none⟩]))))))) (.seq (.region [⟨(some 64), .mov (.t 9), none⟩, ⟨(some 4), .mov (.t 64), none⟩]) .ret))
/-- The words' loop: what holds at its head. -/
def FI2 (s : List Nat) (sp : List (Nat × Nat)) (id wid : Nat) (own0 : Tr Obj) (next0 : Nat) (k : Nat) (st : St) : Prop := ∃ (E : Tr D) (own : Tr Obj) (nx j : Nat) (cap : Option Nat),
  st = ⟨E, own, nx, []⟩ ∧ k + j = sp.length ∧ E.get 0 = some (.str s) ∧ E.get 47 = some (.own id 0 sp.length cap) ∧ E.get 48 = some (.v (.int .i64 sp.length)) ∧ E.get 49 = some (.v (.int .i64 j)) ∧ E.get 9 = some (.own wid 0 sp.length (some sp.length)) ∧
  own.get id = some (.arr 85 2 (sp.map spD)) ∧ own.get wid = some (.arr 9 1 ((sp.take j).map (fun ab => .str (cutW s ab)) ++ List.replicate (sp.length - j) (.str []))) ∧ wid < nx ∧ Kp own0 next0 own nx

theorem set_mid {A : Type} (a b : List A) (x y : A) (n : Nat) (h : n = a.length) : (a ++ x :: b).set n y = a ++ y :: b := by
  subst h; simp [List.set_append]

theorem fields_rest (s : List Nat) (hs : s.length ≤ 2 ^ 40) (own : Tr Obj) (next : Nat) (E : Tr D) (o3 : Tr Obj) (nx id : Nat) (sp : List (Nat × Nat)) (cap : Option Nat) (e0 : E.get 0 = some (.str s)) (e5 : E.get 5 = some (.own id 0 sp.length cap)) (g1 : o3.get id = some (.arr 85 2 (sp.map spD)))
    (hid : id < nx) (hid2 : next ≤ id) (kp : Kp own next o3 nx) (hsp : sp = spF s 0 none) (hab : ∀ ab ∈ sp, ab.1 ≤ ab.2 ∧ ab.2 ≤ s.length) (hl : sp.length ≤ s.length + 1) :
    Ws T [rest28] ⟨E, o3, nx, []⟩ (Qr [.tmp 4] (fun o own' next' => ∃ id, o = .ok (.own id 0 (wordsL s).length (some (wordsL s).length)) ∧ own'.get id = some (.arr 9 1 ((wordsL s).map .str)) ∧ next ≤ id ∧ id < next' ∧ Kp own next own' next')) := by
  have hn0 : (0 : Int) ≤ (sp.length : Int) := by omega
  have hn1 : (sp.length : Int) * 16 ≤ 2 ^ 47 := by omega
  have hn2 : (sp.length : Int) ≤ 2 ^ 47 := by omega
  have hn3 : (sp.length : Int) < 9223372036854775808 := by omega
  simp only [rest28]
  repeat (first | refine wr_nil ?_ | refine ws_seq ?_ | refine ws_skip ?_ | (apply wg; (focus (simp only [SL, Tr.get_put, setDst, ev, reduceCtorEq, Nat.reduceEqDiff, ↓reduceIte, dguard, e0, e5, g1, hn0, hn1, hn2, Int.le_refl]; first | done | exact rfl)); (focus (simp only [dplain, SL, Tr.get_put, ev, evs, evo, dpure, b1, b2, dbinP, dbin, dbinInt, isShift, dlen, dconvP, dconv, didx, natOf, dext, dfld, dun, dload, dfadr, diadr, live, mkval, dimp, dstore, dbuild, dfill, evp, evq, dbslice, dlit, dappend, delems, sizeOK, dmake, smallInt, dslice, dsliceP, bnd, obnd, sliceHdr, dnext, dnilck, D.cells?, Value.oneCell', setDst, Int.cast_ofNat_Int, reduceCtorEq, Nat.reduceEqDiff, Int.reduceToNat, ↓reduceIte, e0, e5, g1, hn0, hn1, hn2, Int.le_refl]; first | done | exact rfl))) | (apply wh; (focus (simp only [SL, Tr.get_put, setDst, ev, reduceCtorEq, Nat.reduceEqDiff, ↓reduceIte, dguard, e0, e5, g1, hn0, hn1, hn2, Int.le_refl]; first | done | exact rfl))) | (apply ws_cond_t; (focus (simp only [SL, Tr.get_put, setDst, ev, reduceCtorEq, Nat.reduceEqDiff, ↓reduceIte, e0, e5, g1, hn0, hn1, hn2, Int.le_refl]; first | done | exact rfl))) | (apply ws_cond_f; (focus (simp only [SL, Tr.get_put, setDst, ev, reduceCtorEq, Nat.reduceEqDiff, ↓reduceIte, e0, e5, g1, hn0, hn1, hn2, Int.le_refl]; first | done | exact rfl))))
  have gi : (o3.put nx (some (Obj.arr 9 1 (List.replicate sp.length (D.str []))))).get id = some (.arr 85 2 (sp.map spD)) := by rw [Tr.get_put_ne _ _ (by omega)]; exact g1
  have gw : (o3.put nx (some (Obj.arr 9 1 (List.replicate sp.length (D.str []))))).get nx = some (Obj.arr 9 1 (List.replicate sp.length (D.str []))) := Tr.get_put_eq _ _ _
  have kp2 : Kp own next (o3.put nx (some (Obj.arr 9 1 (List.replicate sp.length (D.str []))))) (nx + 1) := kp.put kp.le _ (Nat.le_succ _)
  have hnx : next ≤ nx := kp.le
  clear g1 kp
  generalize o3.put nx (some (Obj.arr 9 1 (List.replicate sp.length (D.str [])))) = o4 at *
  repeat (first | refine wr_nil ?_ | refine ws_seq ?_ | refine ws_skip ?_ | (apply wg; (focus (simp only [SL, Tr.get_put, setDst, ev, reduceCtorEq, Nat.reduceEqDiff, ↓reduceIte, dguard, e0, e5, gi, hn0, hn1, hn2, Int.le_refl]; first | done | exact rfl)); (focus (simp only [dplain, SL, Tr.get_put, ev, evs, evo, dpure, b1, b2, dbinP, dbin, dbinInt, isShift, dlen, dconvP, dconv, didx, natOf, dext, dfld, dun, dload, dfadr, diadr, live, mkval, dimp, dstore, dbuild, dfill, evp, evq, dbslice, dlit, dappend, delems, sizeOK, dmake, smallInt, dslice, dsliceP, bnd, obnd, sliceHdr, dnext, dnilck, D.cells?, Value.oneCell', setDst, Int.cast_ofNat_Int, reduceCtorEq, Nat.reduceEqDiff, Int.reduceToNat, ↓reduceIte, e0, e5, gi, hn0, hn1, hn2, Int.le_refl]; first | done | exact rfl))) | (apply wh; (focus (simp only [SL, Tr.get_put, setDst, ev, reduceCtorEq, Nat.reduceEqDiff, ↓reduceIte, dguard, e0, e5, gi, hn0, hn1, hn2, Int.le_refl]; first | done | exact rfl))) | (apply ws_cond_t; (focus (simp only [SL, Tr.get_put, setDst, ev, reduceCtorEq, Nat.reduceEqDiff, ↓reduceIte, e0, e5, gi, hn0, hn1, hn2, Int.le_refl]; first | done | exact rfl))) | (apply ws_cond_f; (focus (simp only [SL, Tr.get_put, setDst, ev, reduceCtorEq, Nat.reduceEqDiff, ↓reduceIte, e0, e5, gi, hn0, hn1, hn2, Int.le_refl]; first | done | exact rfl))))
  refine ws_block ?_
  refine ws_loop (I := FI2 s sp id nx own next) (k := sp.length) ⟨_, _, _, 0, cap, rfl, rfl, (by first | (simp only [SL, Tr.get_put, setDst, ev, reduceCtorEq, Nat.reduceEqDiff, ↓reduceIte, e0]; done) | (simp only [SL, Tr.get_put, setDst, ev, reduceCtorEq, Nat.reduceEqDiff, ↓reduceIte, e0]; exact rfl)), (by first | (simp only [SL, Tr.get_put, setDst, ev, reduceCtorEq, Nat.reduceEqDiff, ↓reduceIte]; done) | (simp only [SL, Tr.get_put, setDst, ev, reduceCtorEq, Nat.reduceEqDiff, ↓reduceIte]; exact rfl)), (by first | (simp only [SL, Tr.get_put, setDst, ev, reduceCtorEq, Nat.reduceEqDiff, ↓reduceIte]; done) | (simp only [SL, Tr.get_put, setDst, ev, reduceCtorEq, Nat.reduceEqDiff, ↓reduceIte]; exact rfl)), (by first | (simp only [SL, Tr.get_put, setDst, ev, reduceCtorEq, Nat.reduceEqDiff, ↓reduceIte]; done) | (simp only [SL, Tr.get_put, setDst, ev, reduceCtorEq, Nat.reduceEqDiff, ↓reduceIte]; exact rfl)), (by first | (simp only [SL, Tr.get_put, setDst, ev, reduceCtorEq, Nat.reduceEqDiff, ↓reduceIte]; done) | (simp only [SL, Tr.get_put, setDst, ev, reduceCtorEq, Nat.reduceEqDiff, ↓reduceIte]; exact rfl)), gi, ?_, by omega, kp2⟩ ?_
  · rw [gw]; simp
  clear gi gw kp2
  rintro k _ ⟨E, o1, nx1, j, cap, rfl, hk, e0, e47, e48, e49, e9, gi, gw, hw, kp⟩
  by_cases hj : j < sp.length
  · have hx0 : (sp.map spD)[j]? = some (.agg [.v (.int .i64 sp[j].1), .v (.int .i64 sp[j].2)]) := by simp [hj, spD]
    have hlt : ((j : Int) < (sp.length : Int)) := by omega
    have hne : ¬ nx = nx1 := by omega
    obtain ⟨hb1, hb2⟩ := hab sp[j] (List.getElem_mem hj)
    have htk : (sp.take (j + 1)).map (fun ab => D.str (cutW s ab)) = (sp.take j).map (fun ab => D.str (cutW s ab)) ++ [D.str ((s.drop sp[j].1).take (sp[j].2 - sp[j].1))] := by
      rw [List.take_succ_eq_append_getElem hj, List.map_append]; rfl
    have hz1 : (0 : Int) ≤ (j : Int) := by omega
    have hsl : (sp.map spD).length = sp.length := by simp
    generalize hX : sp.map spD = X at *
    obtain ⟨Wl, hW, hWl, hWj, hWs⟩ : ∃ Wl : List D, Wl = (sp.take j).map (fun ab => .str (cutW s ab)) ++ List.replicate (sp.length - j) (.str []) ∧ Wl.length = sp.length ∧ Wl[j]? = some (.str []) ∧
        Wl.set j (D.str ((s.drop sp[j].1).take (sp[j].2 - sp[j].1))) = (sp.take (j + 1)).map (fun ab => .str (cutW s ab)) ++ List.replicate (sp.length - (j + 1)) (.str []) := by
      have e1 : sp.length - j = (sp.length - (j + 1)) + 1 := by omega
      refine ⟨_, rfl, by simp; omega, ?_, ?_⟩
      · rw [List.getElem?_append_right (by simp; omega)]
        simp only [List.length_map, List.length_take, Nat.min_eq_left (Nat.le_of_lt hj), Nat.sub_self, e1, List.replicate_succ, List.getElem?_cons_zero]
      · rw [htk, e1, List.replicate_succ, set_mid _ _ _ _ _ (by simp; omega), List.append_assoc]; rfl
    rw [← hW] at gw
    clear hW
    generalize sp[j] = ab at *
    obtain ⟨a, b⟩ := ab
    have hz2 : (0 : Int) ≤ (a : Int) := by omega
    have hz3 : (0 : Int) ≤ (b : Int) := by omega
    simp only at hb1 hb2 hWs hx0
    repeat (first | refine wr_nil ?_ | refine ws_seq ?_ | refine ws_skip ?_ | (apply wg; (focus (simp only [SL, Tr.get_put, setDst, ev, reduceCtorEq, Nat.reduceEqDiff, ↓reduceIte, dguard, e0, e47, e48, e49, e9, gi, hx0, hj, hlt]; first | done | exact rfl)); (focus (simp only [dplain, SL, Tr.get_put, ev, evs, evo, dpure, b1, b2, dbinP, dbin, dbinInt, isShift, dlen, dconvP, dconv, didx, natOf, dext, dfld, dun, dload, dfadr, diadr, live, mkval, dimp, dstore, dbuild, dfill, evp, evq, dbslice, dlit, dappend, delems, sizeOK, dmake, smallInt, dslice, dsliceP, bnd, obnd, sliceHdr, dnext, dnilck, D.cells?, Value.oneCell', setDst, Int.cast_ofNat_Int, reduceCtorEq, Nat.reduceEqDiff, Int.reduceToNat, ↓reduceIte, e0, e47, e48, e49, e9, gi, hx0, hj, hlt]; first | done | exact rfl))) | (apply wh; (focus (simp only [SL, Tr.get_put, setDst, ev, reduceCtorEq, Nat.reduceEqDiff, ↓reduceIte, dguard, e0, e47, e48, e49, e9, gi, hx0, hj, hlt]; first | done | exact rfl))) | (apply ws_cond_t; (focus (simp only [SL, Tr.get_put, setDst, ev, reduceCtorEq, Nat.reduceEqDiff, ↓reduceIte, e0, e47, e48, e49, e9, gi, hx0, hj, hlt]; first | done | exact rfl))) | (apply ws_cond_f; (focus (simp only [SL, Tr.get_put, setDst, ev, reduceCtorEq, Nat.reduceEqDiff, ↓reduceIte, e0, e47, e48, e49, e9, gi, hx0, hj, hlt]; first | done | exact rfl))))
    refine ws_block ?_
    repeat (first | refine wr_nil ?_ | refine ws_seq ?_ | refine ws_skip ?_ | (apply wg; (focus (simp only [SL, Tr.get_put, setDst, ev, reduceCtorEq, Nat.reduceEqDiff, ↓reduceIte, dguard, e0, e47, e48, e49, e9, gi, hx0, hj, hlt, hz1, hz2, hz3, hb1, hb2, gw, hWl, hWj, hne, hsl, Nat.zero_add, Nat.le_refl, ge_iff_le, Nat.reduceLeDiff]; first | done | exact rfl)); (focus (simp only [dplain, SL, Tr.get_put, ev, evs, evo, dpure, b1, b2, dbinP, dbin, dbinInt, isShift, dlen, dconvP, dconv, didx, natOf, dext, dfld, dun, dload, dfadr, diadr, live, mkval, dimp, dstore, dbuild, dfill, evp, evq, dbslice, dlit, dappend, delems, sizeOK, dmake, smallInt, dslice, dsliceP, bnd, obnd, sliceHdr, dnext, dnilck, D.cells?, Value.oneCell', setDst, Int.cast_ofNat_Int, reduceCtorEq, Nat.reduceEqDiff, Int.reduceToNat, ↓reduceIte, e0, e47, e48, e49, e9, gi, hx0, hj, hlt, hz1, hz2, hz3, hb1, hb2, gw, hWl, hWj, hne, hsl, Nat.zero_add, Nat.le_refl, ge_iff_le, Nat.reduceLeDiff]; first | done | exact rfl))) | (apply wh; (focus (simp only [SL, Tr.get_put, setDst, ev, reduceCtorEq, Nat.reduceEqDiff, ↓reduceIte, dguard, e0, e47, e48, e49, e9, gi, hx0, hj, hlt, hz1, hz2, hz3, hb1, hb2, gw, hWl, hWj, hne, hsl, Nat.zero_add, Nat.le_refl, ge_iff_le, Nat.reduceLeDiff]; first | done | exact rfl))) | (apply ws_cond_t; (focus (simp only [SL, Tr.get_put, setDst, ev, reduceCtorEq, Nat.reduceEqDiff, ↓reduceIte, e0, e47, e48, e49, e9, gi, hx0, hj, hlt, hz1, hz2, hz3, hb1, hb2, gw, hWl, hWj, hne, hsl, Nat.zero_add, Nat.le_refl, ge_iff_le, Nat.reduceLeDiff]; first | done | exact rfl))) | (apply ws_cond_f; (focus (simp only [SL, Tr.get_put, setDst, ev, reduceCtorEq, Nat.reduceEqDiff, ↓reduceIte, e0, e47, e48, e49, e9, gi, hx0, hj, hlt, hz1, hz2, hz3, hb1, hb2, gw, hWl, hWj, hne, hsl, Nat.zero_add, Nat.le_refl, ge_iff_le, Nat.reduceLeDiff]; first | done | exact rfl))))
    have hwr : IntKind.i64.wrap ((j : Int) + 1) = (j : Int) + 1 := by simp [IntKind.wrap, IntKind.bits, IntKind.signed]; omega
    refine ⟨k - 1, by omega, _, _, _, j + 1, cap, rfl, by omega, (by first | (simp only [SL, Tr.get_put, setDst, ev, reduceCtorEq, Nat.reduceEqDiff, ↓reduceIte, e0]; done) | (simp only [SL, Tr.get_put, setDst, ev, reduceCtorEq, Nat.reduceEqDiff, ↓reduceIte, e0]; exact rfl)), (by first | (simp only [SL, Tr.get_put, setDst, ev, reduceCtorEq, Nat.reduceEqDiff, ↓reduceIte, e47]; done) | (simp only [SL, Tr.get_put, setDst, ev, reduceCtorEq, Nat.reduceEqDiff, ↓reduceIte, e47]; exact rfl)), (by first | (simp only [SL, Tr.get_put, setDst, ev, reduceCtorEq, Nat.reduceEqDiff, ↓reduceIte, e48]; done) | (simp only [SL, Tr.get_put, setDst, ev, reduceCtorEq, Nat.reduceEqDiff, ↓reduceIte, e48]; exact rfl)), ?_, (by first | (simp only [SL, Tr.get_put, setDst, ev, reduceCtorEq, Nat.reduceEqDiff, ↓reduceIte, e9]; done) | (simp only [SL, Tr.get_put, setDst, ev, reduceCtorEq, Nat.reduceEqDiff, ↓reduceIte, e9]; exact rfl)), ?_, ?_, by omega, ?_⟩
    · simp only [SL, Tr.get_put, ev, evs, evo, dpure, b1, b2, dbinP, dbin, dbinInt, isShift, dlen, dconvP, dconv, didx, natOf, dext, dfld, dun, dload, dfadr, diadr, live, mkval, dimp, dstore, dbuild, dfill, evp, evq, dbslice, dlit, dappend, delems, sizeOK, dmake, smallInt, dslice, dsliceP, bnd, obnd, sliceHdr, dnext, dnilck, D.cells?, Value.oneCell', setDst, Int.cast_ofNat_Int, reduceCtorEq, Nat.reduceEqDiff, Int.reduceToNat, ↓reduceIte]; rw [hwr]; rfl
    · rw [Tr.get_put_ne _ _ (by omega), Tr.get_put_ne _ _ (by omega), Tr.get_put_ne _ _ (by omega), hX]; exact gi
    · rw [Tr.get_put_eq, hWs]
    · exact ((kp.put kp.le _ (Nat.le_succ _)).put kp.le _ (Nat.le_refl _)).put hnx _ (Nat.le_refl _)
  · have hlt : ¬ ((j : Int) < (sp.length : Int)) := by omega
    repeat (first | refine wr_nil ?_ | refine ws_seq ?_ | refine ws_skip ?_ | (apply wg; (focus (simp only [SL, Tr.get_put, setDst, ev, reduceCtorEq, Nat.reduceEqDiff, ↓reduceIte, dguard, e0, e47, e48, e49, e9, hlt]; first | done | exact rfl)); (focus (simp only [dplain, SL, Tr.get_put, ev, evs, evo, dpure, b1, b2, dbinP, dbin, dbinInt, isShift, dlen, dconvP, dconv, didx, natOf, dext, dfld, dun, dload, dfadr, diadr, live, mkval, dimp, dstore, dbuild, dfill, evp, evq, dbslice, dlit, dappend, delems, sizeOK, dmake, smallInt, dslice, dsliceP, bnd, obnd, sliceHdr, dnext, dnilck, D.cells?, Value.oneCell', setDst, Int.cast_ofNat_Int, reduceCtorEq, Nat.reduceEqDiff, Int.reduceToNat, ↓reduceIte, e0, e47, e48, e49, e9, hlt]; first | done | exact rfl))) | (apply wh; (focus (simp only [SL, Tr.get_put, setDst, ev, reduceCtorEq, Nat.reduceEqDiff, ↓reduceIte, dguard, e0, e47, e48, e49, e9, hlt]; first | done | exact rfl))) | (apply ws_cond_t; (focus (simp only [SL, Tr.get_put, setDst, ev, reduceCtorEq, Nat.reduceEqDiff, ↓reduceIte, e0, e47, e48, e49, e9, hlt]; first | done | exact rfl))) | (apply ws_cond_f; (focus (simp only [SL, Tr.get_put, setDst, ev, reduceCtorEq, Nat.reduceEqDiff, ↓reduceIte, e0, e47, e48, e49, e9, hlt]; first | done | exact rfl))))
    refine ws_exit ?_
    simp only [Qn, Qb, if_true]
    repeat (first | refine wr_nil ?_ | refine ws_seq ?_ | refine ws_skip ?_ | (apply wg; (focus (simp only [SL, Tr.get_put, setDst, ev, reduceCtorEq, Nat.reduceEqDiff, ↓reduceIte, dguard, e0, e47, e48, e49, e9]; first | done | exact rfl)); (focus (simp only [dplain, SL, Tr.get_put, ev, evs, evo, dpure, b1, b2, dbinP, dbin, dbinInt, isShift, dlen, dconvP, dconv, didx, natOf, dext, dfld, dun, dload, dfadr, diadr, live, mkval, dimp, dstore, dbuild, dfill, evp, evq, dbslice, dlit, dappend, delems, sizeOK, dmake, smallInt, dslice, dsliceP, bnd, obnd, sliceHdr, dnext, dnilck, D.cells?, Value.oneCell', setDst, Int.cast_ofNat_Int, reduceCtorEq, Nat.reduceEqDiff, Int.reduceToNat, ↓reduceIte, e0, e47, e48, e49, e9]; first | done | exact rfl))) | (apply wh; (focus (simp only [SL, Tr.get_put, setDst, ev, reduceCtorEq, Nat.reduceEqDiff, ↓reduceIte, dguard, e0, e47, e48, e49, e9]; first | done | exact rfl))) | (apply ws_cond_t; (focus (simp only [SL, Tr.get_put, setDst, ev, reduceCtorEq, Nat.reduceEqDiff, ↓reduceIte, e0, e47, e48, e49, e9]; first | done | exact rfl))) | (apply ws_cond_f; (focus (simp only [SL, Tr.get_put, setDst, ev, reduceCtorEq, Nat.reduceEqDiff, ↓reduceIte, e0, e47, e48, e49, e9]; first | done | exact rfl))))
    refine ws_ret ?_
    refine ⟨rfl, _, (by simp only [dress, dres1, SL, Tr.get_put, ev, evs, evo, dpure, b1, b2, dbinP, dbin, dbinInt, isShift, dlen, dconvP, dconv, didx, natOf, dext, dfld, dun, dload, dfadr, diadr, live, mkval, dimp, dstore, dbuild, dfill, evp, evq, dbslice, dlit, dappend, delems, sizeOK, dmake, smallInt, dslice, dsliceP, bnd, obnd, sliceHdr, dnext, dnilck, D.cells?, Value.oneCell', setDst, Int.cast_ofNat_Int, reduceCtorEq, Nat.reduceEqDiff, Int.reduceToNat, ↓reduceIte, e9]; exact rfl), nx, ?_, ?_, by omega, by omega, kp⟩
    · simp only [tupOf, wordsL, ← hsp, List.length_map]
    · rw [gw, wordsL, ← hsp]
      obtain rfl : j = sp.length := by omega
      simp
end Gv
/-! strings.FieldsFunc at blanks: the function. -/
namespace Gv
open Go
set_option linter.unusedVariables false
set_option linter.unusedSimpArgs false
variable {T : Tab}

theorem fields_cp (h28 : Has T 28 code28) (h29 : Has T 29 code29) (s : List Nat) (hs : s.length ≤ 2 ^ 40) (own : Tr Obj) (next : Nat) :
    Cp T 28 [.str s, .fn (.func 29) [] []] own next (fun o own' next' => ∃ id, o = .ok (.own id 0 (wordsL s).length (some (wordsL s).length)) ∧ own'.get id = some (.arr 9 1 ((wordsL s).map .str)) ∧ next ≤ id ∧ id < next' ∧ Kp own next own' next') := by
  refine cp_of h28.1 h28.2 rfl ?_
  simp only [code28, putArgs]
  repeat (first | refine wr_nil ?_ | refine ws_seq ?_ | refine ws_skip ?_ | (apply wg; (focus (simp only [SL, Tr.get_put, setDst, ev, reduceCtorEq, Nat.reduceEqDiff, ↓reduceIte, dguard]; first | done | exact rfl)); (focus (simp only [dplain, SL, Tr.get_put, ev, evs, evo, dpure, b1, b2, dbinP, dbin, dbinInt, isShift, dlen, dconvP, dconv, didx, natOf, dext, dfld, dun, dload, dfadr, diadr, live, mkval, dimp, dstore, dbuild, dfill, evp, evq, dbslice, dlit, dappend, delems, sizeOK, dmake, smallInt, dslice, dsliceP, bnd, obnd, sliceHdr, dnext, dnilck, D.cells?, Value.oneCell', setDst, Int.cast_ofNat_Int, reduceCtorEq, Nat.reduceEqDiff, Int.reduceToNat, ↓reduceIte]; first | done | exact rfl))) | (apply wh; (focus (simp only [SL, Tr.get_put, setDst, ev, reduceCtorEq, Nat.reduceEqDiff, ↓reduceIte, dguard]; first | done | exact rfl))) | (apply ws_cond_t; (focus (simp only [SL, Tr.get_put, setDst, ev, reduceCtorEq, Nat.reduceEqDiff, ↓reduceIte]; first | done | exact rfl))) | (apply ws_cond_f; (focus (simp only [SL, Tr.get_put, setDst, ev, reduceCtorEq, Nat.reduceEqDiff, ↓reduceIte]; first | done | exact rfl))))
  refine ws_block ?_
  have kp0 : Kp own next ((own.put next (some (Obj.arr 85 2 []))).put (next + 1) (some (Obj.it s 0))) (next + 1 + 1) := ((Kp.refl own next).put (Nat.le_refl _) _ (Nat.le_succ _)).put (Nat.le_succ _) _ (Nat.le_succ _)
  refine ws_loop (I := FI1 s own next) (k := s.length) ⟨_, _, _, 0, [], none, next, next + 1, some 32, -1, rfl, rfl, (by first | (simp only [SL, Tr.get_put, setDst, ev, reduceCtorEq, Nat.reduceEqDiff, ↓reduceIte]; done) | (simp only [SL, Tr.get_put, setDst, ev, reduceCtorEq, Nat.reduceEqDiff, ↓reduceIte]; exact rfl)), (by first | (simp only [SL, Tr.get_put, setDst, ev, reduceCtorEq, Nat.reduceEqDiff, ↓reduceIte]; done) | (simp only [SL, Tr.get_put, setDst, ev, reduceCtorEq, Nat.reduceEqDiff, ↓reduceIte]; exact rfl)), (by first | (simp only [SL, Tr.get_put, setDst, ev, reduceCtorEq, Nat.reduceEqDiff, ↓reduceIte]; done) | (simp only [SL, Tr.get_put, setDst, ev, reduceCtorEq, Nat.reduceEqDiff, ↓reduceIte]; exact rfl)), (by first | (simp only [SL, Tr.get_put, setDst, ev, reduceCtorEq, Nat.reduceEqDiff, ↓reduceIte]; done) | (simp only [SL, Tr.get_put, setDst, ev, reduceCtorEq, Nat.reduceEqDiff, ↓reduceIte]; exact rfl)), (by first | (simp only [SL, Tr.get_put, setDst, ev, reduceCtorEq, Nat.reduceEqDiff, ↓reduceIte]; done) | (simp only [SL, Tr.get_put, setDst, ev, reduceCtorEq, Nat.reduceEqDiff, ↓reduceIte]; exact rfl)), ?_, ?_, by omega, by omega, by omega, by omega, by omega, kp0, rfl, by simp, by simp, .inl ⟨rfl, by omega, by omega⟩⟩ ?_
  · rw [Tr.get_put_ne _ _ (by omega), Tr.get_put_eq]; rfl
  · rw [Tr.get_put_eq]
  rintro k _ ⟨E, o1, nx, p, sp, so, id, iid, cap, z, rfl, hk, e0, e1, e5, e6, e14, g1, g2, hne, l1, l2, l3, l4, kp, hsp, hab, hlen, hz⟩
  by_cases hp : p < s.length
  · obtain ⟨c, w, hdec, hw1, hw2, hcase⟩ := decode_spec hp
    refine ws_seq (wr_it (d := .tup [.v (.bool true), .v (.int .i64 p), .v (.int .i32 c)]) (own' := o1.put iid (some (.it s (p + w)))) (next' := nx) rfl ?_ ?_)
    · simp only [dimp, ev, e14, b1, dnext, g2, hp, if_true, hdec]
    have kp2 : Kp own next (o1.put iid (some (.it s (p + w)))) nx := kp.put l2 _ (Nat.le_refl _)
    have g1' : (o1.put iid (some (.it s (p + w)))).get id = some (.arr 85 2 (sp.map spD)) := by rw [Tr.get_put_ne _ _ hne]; exact g1
    have g2' : (o1.put iid (some (.it s (p + w)))).get iid = some (.it s (p + w)) := Tr.get_put_eq _ _ _
    generalize o1.put iid (some (.it s (p + w))) = o2 at *
    repeat (first | refine wr_nil ?_ | refine ws_seq ?_ | refine ws_skip ?_ | (apply wg; (focus (simp only [SL, Tr.get_put, setDst, ev, reduceCtorEq, Nat.reduceEqDiff, ↓reduceIte, dguard, e0, e1, e5, e6, e14]; first | done | exact rfl)); (focus (simp only [dplain, SL, Tr.get_put, ev, evs, evo, dpure, b1, b2, dbinP, dbin, dbinInt, isShift, dlen, dconvP, dconv, didx, natOf, dext, dfld, dun, dload, dfadr, diadr, live, mkval, dimp, dstore, dbuild, dfill, evp, evq, dbslice, dlit, dappend, delems, sizeOK, dmake, smallInt, dslice, dsliceP, bnd, obnd, sliceHdr, dnext, dnilck, D.cells?, Value.oneCell', setDst, Int.cast_ofNat_Int, reduceCtorEq, Nat.reduceEqDiff, Int.reduceToNat, ↓reduceIte, e0, e1, e5, e6, e14]; first | done | exact rfl))) | (apply wh; (focus (simp only [SL, Tr.get_put, setDst, ev, reduceCtorEq, Nat.reduceEqDiff, ↓reduceIte, dguard, e0, e1, e5, e6, e14]; first | done | exact rfl))) | (apply ws_cond_t; (focus (simp only [SL, Tr.get_put, setDst, ev, reduceCtorEq, Nat.reduceEqDiff, ↓reduceIte, e0, e1, e5, e6, e14]; first | done | exact rfl))) | (apply ws_cond_f; (focus (simp only [SL, Tr.get_put, setDst, ev, reduceCtorEq, Nat.reduceEqDiff, ↓reduceIte, e0, e1, e5, e6, e14]; first | done | exact rfl))))
    refine ws_block ?_
    repeat (first | refine wr_nil ?_ | refine ws_seq ?_ | refine ws_skip ?_ | (apply wg; (focus (simp only [SL, Tr.get_put, setDst, ev, reduceCtorEq, Nat.reduceEqDiff, ↓reduceIte, dguard, e0, e1, e5, e6, e14]; first | done | exact rfl)); (focus (simp only [dplain, SL, Tr.get_put, ev, evs, evo, dpure, b1, b2, dbinP, dbin, dbinInt, isShift, dlen, dconvP, dconv, didx, natOf, dext, dfld, dun, dload, dfadr, diadr, live, mkval, dimp, dstore, dbuild, dfill, evp, evq, dbslice, dlit, dappend, delems, sizeOK, dmake, smallInt, dslice, dsliceP, bnd, obnd, sliceHdr, dnext, dnilck, D.cells?, Value.oneCell', setDst, Int.cast_ofNat_Int, reduceCtorEq, Nat.reduceEqDiff, Int.reduceToNat, ↓reduceIte, e0, e1, e5, e6, e14]; first | done | exact rfl))) | (apply wh; (focus (simp only [SL, Tr.get_put, setDst, ev, reduceCtorEq, Nat.reduceEqDiff, ↓reduceIte, dguard, e0, e1, e5, e6, e14]; first | done | exact rfl))) | (apply ws_cond_t; (focus (simp only [SL, Tr.get_put, setDst, ev, reduceCtorEq, Nat.reduceEqDiff, ↓reduceIte, e0, e1, e5, e6, e14]; first | done | exact rfl))) | (apply ws_cond_f; (focus (simp only [SL, Tr.get_put, setDst, ev, reduceCtorEq, Nat.reduceEqDiff, ↓reduceIte, e0, e1, e5, e6, e14]; first | done | exact rfl))))
    apply wr_callv
    focus (simp only [SL, Tr.get_put, ev, evs, evo, dpure, b1, b2, dbinP, dbin, dbinInt, isShift, dlen, dconvP, dconv, didx, natOf, dext, dfld, dun, dload, dfadr, diadr, live, mkval, dimp, dstore, dbuild, dfill, evp, evq, dbslice, dlit, dappend, delems, sizeOK, dmake, smallInt, dslice, dsliceP, bnd, obnd, sliceHdr, dnext, dnilck, D.cells?, Value.oneCell', setDst, Int.cast_ofNat_Int, reduceCtorEq, Nat.reduceEqDiff, Int.reduceToNat, ↓reduceIte, e0, e1, e5, e6, e14]; exact rfl)
    focus (simp only [SL, Tr.get_put, ev, evs, evo, dpure, b1, b2, dbinP, dbin, dbinInt, isShift, dlen, dconvP, dconv, didx, natOf, dext, dfld, dun, dload, dfadr, diadr, live, mkval, dimp, dstore, dbuild, dfill, evp, evq, dbslice, dlit, dappend, delems, sizeOK, dmake, smallInt, dslice, dsliceP, bnd, obnd, sliceHdr, dnext, dnilck, D.cells?, Value.oneCell', setDst, Int.cast_ofNat_Int, reduceCtorEq, Nat.reduceEqDiff, Int.reduceToNat, ↓reduceIte, e0, e1, e5, e6, e14]; exact rfl)
    refine (blank_cp h29 c o2 nx).mono ?_
    rintro _ _ _ ⟨rfl, rfl, rfl⟩
    simp only [Qk]
    rcases hcase with ⟨hsc, rfl, rfl⟩ | ⟨hc32, hrun⟩
    · -- a blank
      have hbl := spF_blank hsc so
      have e32 : ((((32 : Nat) : Int)) == 32) = true := rfl
      rcases hz with ⟨rfl, hz1, hz2⟩ | ⟨a, rfl, rfl, hap⟩
      · have hge : ¬ (z ≥ 0) := by omega
        repeat (first | refine wr_nil ?_ | refine ws_seq ?_ | refine ws_skip ?_ | (apply wg; (focus (simp only [SL, Tr.get_put, setDst, ev, reduceCtorEq, Nat.reduceEqDiff, ↓reduceIte, dguard, e0, e1, e5, e6, e14, e32, hge]; first | done | exact rfl)); (focus (simp only [dplain, SL, Tr.get_put, ev, evs, evo, dpure, b1, b2, dbinP, dbin, dbinInt, isShift, dlen, dconvP, dconv, didx, natOf, dext, dfld, dun, dload, dfadr, diadr, live, mkval, dimp, dstore, dbuild, dfill, evp, evq, dbslice, dlit, dappend, delems, sizeOK, dmake, smallInt, dslice, dsliceP, bnd, obnd, sliceHdr, dnext, dnilck, D.cells?, Value.oneCell', setDst, Int.cast_ofNat_Int, reduceCtorEq, Nat.reduceEqDiff, Int.reduceToNat, ↓reduceIte, e0, e1, e5, e6, e14, e32, hge]; first | done | exact rfl))) | (apply wh; (focus (simp only [SL, Tr.get_put, setDst, ev, reduceCtorEq, Nat.reduceEqDiff, ↓reduceIte, dguard, e0, e1, e5, e6, e14, e32, hge]; first | done | exact rfl))) | (apply ws_cond_t; (focus (simp only [SL, Tr.get_put, setDst, ev, reduceCtorEq, Nat.reduceEqDiff, ↓reduceIte, e0, e1, e5, e6, e14, e32, hge]; first | done | exact rfl))) | (apply ws_cond_f; (focus (simp only [SL, Tr.get_put, setDst, ev, reduceCtorEq, Nat.reduceEqDiff, ↓reduceIte, e0, e1, e5, e6, e14, e32, hge]; first | done | exact rfl))))
        refine ⟨k - 1, by omega, _, _, _, p + 1, sp, none, id, iid, cap, z, rfl, by omega, (by first | (simp only [SL, Tr.get_put, setDst, ev, reduceCtorEq, Nat.reduceEqDiff, ↓reduceIte, e0]; done) | (simp only [SL, Tr.get_put, setDst, ev, reduceCtorEq, Nat.reduceEqDiff, ↓reduceIte, e0]; exact rfl)), (by first | (simp only [SL, Tr.get_put, setDst, ev, reduceCtorEq, Nat.reduceEqDiff, ↓reduceIte, e1]; done) | (simp only [SL, Tr.get_put, setDst, ev, reduceCtorEq, Nat.reduceEqDiff, ↓reduceIte, e1]; exact rfl)), (by first | (simp only [SL, Tr.get_put, setDst, ev, reduceCtorEq, Nat.reduceEqDiff, ↓reduceIte, e5]; done) | (simp only [SL, Tr.get_put, setDst, ev, reduceCtorEq, Nat.reduceEqDiff, ↓reduceIte, e5]; exact rfl)), (by first | (simp only [SL, Tr.get_put, setDst, ev, reduceCtorEq, Nat.reduceEqDiff, ↓reduceIte, e6]; done) | (simp only [SL, Tr.get_put, setDst, ev, reduceCtorEq, Nat.reduceEqDiff, ↓reduceIte, e6]; exact rfl)), (by first | (simp only [SL, Tr.get_put, setDst, ev, reduceCtorEq, Nat.reduceEqDiff, ↓reduceIte, e14]; done) | (simp only [SL, Tr.get_put, setDst, ev, reduceCtorEq, Nat.reduceEqDiff, ↓reduceIte, e14]; exact rfl)), g1', g2', hne, l1, l2, l3, l4, kp2, ?_, hab, by omega, .inl ⟨rfl, hz1, hz2⟩⟩
        rw [hbl] at hsp; simpa using hsp
      · have hge : ((a : Int) ≥ 0) := by omega
        repeat (first | refine wr_nil ?_ | refine ws_seq ?_ | refine ws_skip ?_ | (apply wg; (focus (simp only [SL, Tr.get_put, setDst, ev, reduceCtorEq, Nat.reduceEqDiff, ↓reduceIte, dguard, e0, e1, e5, e6, e14, e32, hge]; first | done | exact rfl)); (focus (simp only [dplain, SL, Tr.get_put, ev, evs, evo, dpure, b1, b2, dbinP, dbin, dbinInt, isShift, dlen, dconvP, dconv, didx, natOf, dext, dfld, dun, dload, dfadr, diadr, live, mkval, dimp, dstore, dbuild, dfill, evp, evq, dbslice, dlit, dappend, delems, sizeOK, dmake, smallInt, dslice, dsliceP, bnd, obnd, sliceHdr, dnext, dnilck, D.cells?, Value.oneCell', setDst, Int.cast_ofNat_Int, reduceCtorEq, Nat.reduceEqDiff, Int.reduceToNat, ↓reduceIte, e0, e1, e5, e6, e14, e32, hge]; first | done | exact rfl))) | (apply wh; (focus (simp only [SL, Tr.get_put, setDst, ev, reduceCtorEq, Nat.reduceEqDiff, ↓reduceIte, dguard, e0, e1, e5, e6, e14, e32, hge]; first | done | exact rfl))) | (apply ws_cond_t; (focus (simp only [SL, Tr.get_put, setDst, ev, reduceCtorEq, Nat.reduceEqDiff, ↓reduceIte, e0, e1, e5, e6, e14, e32, hge]; first | done | exact rfl))) | (apply ws_cond_f; (focus (simp only [SL, Tr.get_put, setDst, ev, reduceCtorEq, Nat.reduceEqDiff, ↓reduceIte, e0, e1, e5, e6, e14, e32, hge]; first | done | exact rfl))))
        -- the word is laid down
        obtain ⟨cap', o3, ha, hg3, ho3⟩ := dappend_one (n := sp.length) (next := nx) (ty := 85) (size := 2) (bytes := 16) (y := spD (a, p)) (cs := [.v (.int .i64 a), .v (.int .i64 p)]) (cap := cap) g1' (by simp) rfl rfl (by omega) (by omega)
        refine wr_it (d := .own nx 0 (sp.length + 1) cap') (own' := o3) (next' := nx + 1) rfl ?_ ?_
        · simp only [dimp, ev, setDst, Tr.get_put, e0, e1, e5, e6, e14, b2, Nat.reduceEqDiff, ↓reduceIte]
          have : dappend o2 nx 85 2 16 (.own id 0 sp.length cap) (.sl .full [.agg [.v (.int .i64 a), .v (.int .i64 p)]]) = some (.own nx 0 (sp.length + 1) cap', o3, nx + 1) := ha
          rw [this]
        have hx := xor_neg a (by omega)
        repeat (first | refine wr_nil ?_ | refine ws_seq ?_ | refine ws_skip ?_ | (apply wg; (focus (simp only [SL, Tr.get_put, setDst, ev, reduceCtorEq, Nat.reduceEqDiff, ↓reduceIte, dguard, e0, e1, e5, e6, e14, hx, IntKind.bits, IntKind.signed]; first | done | exact rfl)); (focus (simp only [dplain, SL, Tr.get_put, ev, evs, evo, dpure, b1, b2, dbinP, dbin, dbinInt, isShift, dlen, dconvP, dconv, didx, natOf, dext, dfld, dun, dload, dfadr, diadr, live, mkval, dimp, dstore, dbuild, dfill, evp, evq, dbslice, dlit, dappend, delems, sizeOK, dmake, smallInt, dslice, dsliceP, bnd, obnd, sliceHdr, dnext, dnilck, D.cells?, Value.oneCell', setDst, Int.cast_ofNat_Int, reduceCtorEq, Nat.reduceEqDiff, Int.reduceToNat, ↓reduceIte, e0, e1, e5, e6, e14, hx, IntKind.bits, IntKind.signed]; first | done | exact rfl))) | (apply wh; (focus (simp only [SL, Tr.get_put, setDst, ev, reduceCtorEq, Nat.reduceEqDiff, ↓reduceIte, dguard, e0, e1, e5, e6, e14, hx, IntKind.bits, IntKind.signed]; first | done | exact rfl))) | (apply ws_cond_t; (focus (simp only [SL, Tr.get_put, setDst, ev, reduceCtorEq, Nat.reduceEqDiff, ↓reduceIte, e0, e1, e5, e6, e14, hx, IntKind.bits, IntKind.signed]; first | done | exact rfl))) | (apply ws_cond_f; (focus (simp only [SL, Tr.get_put, setDst, ev, reduceCtorEq, Nat.reduceEqDiff, ↓reduceIte, e0, e1, e5, e6, e14, hx, IntKind.bits, IntKind.signed]; first | done | exact rfl))))
        refine ⟨k - 1, by omega, _, _, _, p + 1, sp ++ [(a, p)], none, nx, iid, cap', -(a : Int) - 1, rfl, by omega, (by first | (simp only [SL, Tr.get_put, setDst, ev, reduceCtorEq, Nat.reduceEqDiff, ↓reduceIte, e0]; done) | (simp only [SL, Tr.get_put, setDst, ev, reduceCtorEq, Nat.reduceEqDiff, ↓reduceIte, e0]; exact rfl)), (by first | (simp only [SL, Tr.get_put, setDst, ev, reduceCtorEq, Nat.reduceEqDiff, ↓reduceIte, e1]; done) | (simp only [SL, Tr.get_put, setDst, ev, reduceCtorEq, Nat.reduceEqDiff, ↓reduceIte, e1]; exact rfl)), ?_, ?_, (by first | (simp only [SL, Tr.get_put, setDst, ev, reduceCtorEq, Nat.reduceEqDiff, ↓reduceIte, e14]; done) | (simp only [SL, Tr.get_put, setDst, ev, reduceCtorEq, Nat.reduceEqDiff, ↓reduceIte, e14]; exact rfl)), by rw [hg3]; simp, by rw [ho3 _ (Ne.symm hne) (by omega)]; exact g2', by omega, by omega, l2, by omega, by omega, ?_, ?_, ?_, by simp; omega, .inl ⟨rfl, by omega, by omega⟩⟩
        · simp only [SL, Tr.get_put, ev, evs, evo, dpure, b1, b2, dbinP, dbin, dbinInt, isShift, dlen, dconvP, dconv, didx, natOf, dext, dfld, dun, dload, dfadr, diadr, live, mkval, dimp, dstore, dbuild, dfill, evp, evq, dbslice, dlit, dappend, delems, sizeOK, dmake, smallInt, dslice, dsliceP, bnd, obnd, sliceHdr, dnext, dnilck, D.cells?, Value.oneCell', setDst, Int.cast_ofNat_Int, reduceCtorEq, Nat.reduceEqDiff, Int.reduceToNat, ↓reduceIte]
        · simp only [SL, Tr.get_put, ev, evs, evo, dpure, b1, b2, dbinP, dbin, dbinInt, isShift, dlen, dconvP, dconv, didx, natOf, dext, dfld, dun, dload, dfadr, diadr, live, mkval, dimp, dstore, dbuild, dfill, evp, evq, dbslice, dlit, dappend, delems, sizeOK, dmake, smallInt, dslice, dsliceP, bnd, obnd, sliceHdr, dnext, dnilck, D.cells?, Value.oneCell', setDst, Int.cast_ofNat_Int, reduceCtorEq, Nat.reduceEqDiff, Int.reduceToNat, ↓reduceIte]; exact congrArg some (congrArg D.v (congrArg (Value.int .i64) hx))
        · exact ⟨by have := kp2.le; omega, fun j hj => by rw [ho3 j (by omega) (by have := kp2.le; omega)]; exact kp2.get j hj⟩
        · rw [hbl] at hsp; simpa using hsp
        · intro ab hm
          rcases List.mem_append.1 hm with hm | hm
          · exact hab ab hm
          · simp only [List.mem_singleton] at hm; subst hm; exact ⟨by simp only; omega, by simp only; omega⟩
    · -- part of a word
      have hsk := spF_skip (s := s) w p so hw1 hw2 hrun
      have hc' : (((c : Int)) == 32) = false := by simp; omega
      rcases hz with ⟨rfl, hz1, hz2⟩ | ⟨a, rfl, rfl, hap⟩
      · repeat (first | refine wr_nil ?_ | refine ws_seq ?_ | refine ws_skip ?_ | (apply wg; (focus (simp only [SL, Tr.get_put, setDst, ev, reduceCtorEq, Nat.reduceEqDiff, ↓reduceIte, dguard, e0, e1, e5, e6, e14, hc', hz1]; first | done | exact rfl)); (focus (simp only [dplain, SL, Tr.get_put, ev, evs, evo, dpure, b1, b2, dbinP, dbin, dbinInt, isShift, dlen, dconvP, dconv, didx, natOf, dext, dfld, dun, dload, dfadr, diadr, live, mkval, dimp, dstore, dbuild, dfill, evp, evq, dbslice, dlit, dappend, delems, sizeOK, dmake, smallInt, dslice, dsliceP, bnd, obnd, sliceHdr, dnext, dnilck, D.cells?, Value.oneCell', setDst, Int.cast_ofNat_Int, reduceCtorEq, Nat.reduceEqDiff, Int.reduceToNat, ↓reduceIte, e0, e1, e5, e6, e14, hc', hz1]; first | done | exact rfl))) | (apply wh; (focus (simp only [SL, Tr.get_put, setDst, ev, reduceCtorEq, Nat.reduceEqDiff, ↓reduceIte, dguard, e0, e1, e5, e6, e14, hc', hz1]; first | done | exact rfl))) | (apply ws_cond_t; (focus (simp only [SL, Tr.get_put, setDst, ev, reduceCtorEq, Nat.reduceEqDiff, ↓reduceIte, e0, e1, e5, e6, e14, hc', hz1]; first | done | exact rfl))) | (apply ws_cond_f; (focus (simp only [SL, Tr.get_put, setDst, ev, reduceCtorEq, Nat.reduceEqDiff, ↓reduceIte, e0, e1, e5, e6, e14, hc', hz1]; first | done | exact rfl))))
        refine ⟨k - w, by omega, _, _, _, p + w, sp, some p, id, iid, cap, p, rfl, by omega, (by first | (simp only [SL, Tr.get_put, setDst, ev, reduceCtorEq, Nat.reduceEqDiff, ↓reduceIte, e0]; done) | (simp only [SL, Tr.get_put, setDst, ev, reduceCtorEq, Nat.reduceEqDiff, ↓reduceIte, e0]; exact rfl)), (by first | (simp only [SL, Tr.get_put, setDst, ev, reduceCtorEq, Nat.reduceEqDiff, ↓reduceIte, e1]; done) | (simp only [SL, Tr.get_put, setDst, ev, reduceCtorEq, Nat.reduceEqDiff, ↓reduceIte, e1]; exact rfl)), (by first | (simp only [SL, Tr.get_put, setDst, ev, reduceCtorEq, Nat.reduceEqDiff, ↓reduceIte, e5]; done) | (simp only [SL, Tr.get_put, setDst, ev, reduceCtorEq, Nat.reduceEqDiff, ↓reduceIte, e5]; exact rfl)), (by first | (simp only [SL, Tr.get_put, setDst, ev, reduceCtorEq, Nat.reduceEqDiff, ↓reduceIte]; done) | (simp only [SL, Tr.get_put, setDst, ev, reduceCtorEq, Nat.reduceEqDiff, ↓reduceIte]; exact rfl)), (by first | (simp only [SL, Tr.get_put, setDst, ev, reduceCtorEq, Nat.reduceEqDiff, ↓reduceIte, e14]; done) | (simp only [SL, Tr.get_put, setDst, ev, reduceCtorEq, Nat.reduceEqDiff, ↓reduceIte, e14]; exact rfl)), g1', g2', hne, l1, l2, l3, l4, kp2, ?_, hab, by omega, .inr ⟨p, rfl, rfl, by omega⟩⟩
        rw [hsk] at hsp; exact hsp
      · have hlt : ¬ ((a : Int) < 0) := by omega
        repeat (first | refine wr_nil ?_ | refine ws_seq ?_ | refine ws_skip ?_ | (apply wg; (focus (simp only [SL, Tr.get_put, setDst, ev, reduceCtorEq, Nat.reduceEqDiff, ↓reduceIte, dguard, e0, e1, e5, e6, e14, hc', hlt]; first | done | exact rfl)); (focus (simp only [dplain, SL, Tr.get_put, ev, evs, evo, dpure, b1, b2, dbinP, dbin, dbinInt, isShift, dlen, dconvP, dconv, didx, natOf, dext, dfld, dun, dload, dfadr, diadr, live, mkval, dimp, dstore, dbuild, dfill, evp, evq, dbslice, dlit, dappend, delems, sizeOK, dmake, smallInt, dslice, dsliceP, bnd, obnd, sliceHdr, dnext, dnilck, D.cells?, Value.oneCell', setDst, Int.cast_ofNat_Int, reduceCtorEq, Nat.reduceEqDiff, Int.reduceToNat, ↓reduceIte, e0, e1, e5, e6, e14, hc', hlt]; first | done | exact rfl))) | (apply wh; (focus (simp only [SL, Tr.get_put, setDst, ev, reduceCtorEq, Nat.reduceEqDiff, ↓reduceIte, dguard, e0, e1, e5, e6, e14, hc', hlt]; first | done | exact rfl))) | (apply ws_cond_t; (focus (simp only [SL, Tr.get_put, setDst, ev, reduceCtorEq, Nat.reduceEqDiff, ↓reduceIte, e0, e1, e5, e6, e14, hc', hlt]; first | done | exact rfl))) | (apply ws_cond_f; (focus (simp only [SL, Tr.get_put, setDst, ev, reduceCtorEq, Nat.reduceEqDiff, ↓reduceIte, e0, e1, e5, e6, e14, hc', hlt]; first | done | exact rfl))))
        refine ⟨k - w, by omega, _, _, _, p + w, sp, some a, id, iid, cap, a, rfl, by omega, (by first | (simp only [SL, Tr.get_put, setDst, ev, reduceCtorEq, Nat.reduceEqDiff, ↓reduceIte, e0]; done) | (simp only [SL, Tr.get_put, setDst, ev, reduceCtorEq, Nat.reduceEqDiff, ↓reduceIte, e0]; exact rfl)), (by first | (simp only [SL, Tr.get_put, setDst, ev, reduceCtorEq, Nat.reduceEqDiff, ↓reduceIte, e1]; done) | (simp only [SL, Tr.get_put, setDst, ev, reduceCtorEq, Nat.reduceEqDiff, ↓reduceIte, e1]; exact rfl)), (by first | (simp only [SL, Tr.get_put, setDst, ev, reduceCtorEq, Nat.reduceEqDiff, ↓reduceIte, e5]; done) | (simp only [SL, Tr.get_put, setDst, ev, reduceCtorEq, Nat.reduceEqDiff, ↓reduceIte, e5]; exact rfl)), (by first | (simp only [SL, Tr.get_put, setDst, ev, reduceCtorEq, Nat.reduceEqDiff, ↓reduceIte, e6]; done) | (simp only [SL, Tr.get_put, setDst, ev, reduceCtorEq, Nat.reduceEqDiff, ↓reduceIte, e6]; exact rfl)), (by first | (simp only [SL, Tr.get_put, setDst, ev, reduceCtorEq, Nat.reduceEqDiff, ↓reduceIte, e14]; done) | (simp only [SL, Tr.get_put, setDst, ev, reduceCtorEq, Nat.reduceEqDiff, ↓reduceIte, e14]; exact rfl)), g1', g2', hne, l1, l2, l3, l4, kp2, ?_, hab, by omega, .inr ⟨a, rfl, rfl, by omega⟩⟩
        rw [hsk] at hsp; exact hsp
  · obtain rfl : p = s.length := by omega
    refine ws_seq (wr_it (d := .tup [.v (.bool false)]) (own' := o1) (next' := nx) rfl ?_ ?_)
    · simp only [dimp, ev, e14, b1, dnext, g2, hp, if_false]
    repeat (first | refine wr_nil ?_ | refine ws_seq ?_ | refine ws_skip ?_ | (apply wg; (focus (simp only [SL, Tr.get_put, setDst, ev, reduceCtorEq, Nat.reduceEqDiff, ↓reduceIte, dguard, e0, e1, e5, e6, e14]; first | done | exact rfl)); (focus (simp only [dplain, SL, Tr.get_put, ev, evs, evo, dpure, b1, b2, dbinP, dbin, dbinInt, isShift, dlen, dconvP, dconv, didx, natOf, dext, dfld, dun, dload, dfadr, diadr, live, mkval, dimp, dstore, dbuild, dfill, evp, evq, dbslice, dlit, dappend, delems, sizeOK, dmake, smallInt, dslice, dsliceP, bnd, obnd, sliceHdr, dnext, dnilck, D.cells?, Value.oneCell', setDst, Int.cast_ofNat_Int, reduceCtorEq, Nat.reduceEqDiff, Int.reduceToNat, ↓reduceIte, e0, e1, e5, e6, e14]; first | done | exact rfl))) | (apply wh; (focus (simp only [SL, Tr.get_put, setDst, ev, reduceCtorEq, Nat.reduceEqDiff, ↓reduceIte, dguard, e0, e1, e5, e6, e14]; first | done | exact rfl))) | (apply ws_cond_t; (focus (simp only [SL, Tr.get_put, setDst, ev, reduceCtorEq, Nat.reduceEqDiff, ↓reduceIte, e0, e1, e5, e6, e14]; first | done | exact rfl))) | (apply ws_cond_f; (focus (simp only [SL, Tr.get_put, setDst, ev, reduceCtorEq, Nat.reduceEqDiff, ↓reduceIte, e0, e1, e5, e6, e14]; first | done | exact rfl))))
    refine ws_exit ?_
    simp only [Qn, Qb, if_true]
    rw [spF_end rfl] at hsp
    have fr := @fields_rest T s hs own next
    change Ws T [.seq _ rest28] _ _
    generalize rest28 = R at fr ⊢
    rcases hz with ⟨rfl, hz1, hz2⟩ | ⟨a, rfl, rfl, hap⟩
    · have hge : ¬ (z ≥ 0) := by omega
      repeat (first | refine wr_nil ?_ | refine ws_seq ?_ | refine ws_skip ?_ | (apply wg; (focus (simp only [SL, Tr.get_put, setDst, ev, reduceCtorEq, Nat.reduceEqDiff, ↓reduceIte, dguard, e0, e1, e5, e6, e14, hge]; first | done | exact rfl)); (focus (simp only [dplain, SL, Tr.get_put, ev, evs, evo, dpure, b1, b2, dbinP, dbin, dbinInt, isShift, dlen, dconvP, dconv, didx, natOf, dext, dfld, dun, dload, dfadr, diadr, live, mkval, dimp, dstore, dbuild, dfill, evp, evq, dbslice, dlit, dappend, delems, sizeOK, dmake, smallInt, dslice, dsliceP, bnd, obnd, sliceHdr, dnext, dnilck, D.cells?, Value.oneCell', setDst, Int.cast_ofNat_Int, reduceCtorEq, Nat.reduceEqDiff, Int.reduceToNat, ↓reduceIte, e0, e1, e5, e6, e14, hge]; first | done | exact rfl))) | (apply wh; (focus (simp only [SL, Tr.get_put, setDst, ev, reduceCtorEq, Nat.reduceEqDiff, ↓reduceIte, dguard, e0, e1, e5, e6, e14, hge]; first | done | exact rfl))) | (apply ws_cond_t; (focus (simp only [SL, Tr.get_put, setDst, ev, reduceCtorEq, Nat.reduceEqDiff, ↓reduceIte, e0, e1, e5, e6, e14, hge]; first | done | exact rfl))) | (apply ws_cond_f; (focus (simp only [SL, Tr.get_put, setDst, ev, reduceCtorEq, Nat.reduceEqDiff, ↓reduceIte, e0, e1, e5, e6, e14, hge]; first | done | exact rfl))))
      exact fr _ o1 nx id sp cap (by first | (simp only [SL, Tr.get_put, setDst, ev, reduceCtorEq, Nat.reduceEqDiff, ↓reduceIte, e0]; done) | (simp only [SL, Tr.get_put, setDst, ev, reduceCtorEq, Nat.reduceEqDiff, ↓reduceIte, e0]; exact rfl)) (by first | (simp only [SL, Tr.get_put, setDst, ev, reduceCtorEq, Nat.reduceEqDiff, ↓reduceIte, e5]; done) | (simp only [SL, Tr.get_put, setDst, ev, reduceCtorEq, Nat.reduceEqDiff, ↓reduceIte, e5]; exact rfl)) g1 l3 l1 kp (by simpa using hsp) hab (by omega)
    · have hge : ((a : Int) ≥ 0) := by omega
      repeat (first | refine wr_nil ?_ | refine ws_seq ?_ | refine ws_skip ?_ | (apply wg; (focus (simp only [SL, Tr.get_put, setDst, ev, reduceCtorEq, Nat.reduceEqDiff, ↓reduceIte, dguard, e0, e1, e5, e6, e14, hge]; first | done | exact rfl)); (focus (simp only [dplain, SL, Tr.get_put, ev, evs, evo, dpure, b1, b2, dbinP, dbin, dbinInt, isShift, dlen, dconvP, dconv, didx, natOf, dext, dfld, dun, dload, dfadr, diadr, live, mkval, dimp, dstore, dbuild, dfill, evp, evq, dbslice, dlit, dappend, delems, sizeOK, dmake, smallInt, dslice, dsliceP, bnd, obnd, sliceHdr, dnext, dnilck, D.cells?, Value.oneCell', setDst, Int.cast_ofNat_Int, reduceCtorEq, Nat.reduceEqDiff, Int.reduceToNat, ↓reduceIte, e0, e1, e5, e6, e14, hge]; first | done | exact rfl))) | (apply wh; (focus (simp only [SL, Tr.get_put, setDst, ev, reduceCtorEq, Nat.reduceEqDiff, ↓reduceIte, dguard, e0, e1, e5, e6, e14, hge]; first | done | exact rfl))) | (apply ws_cond_t; (focus (simp only [SL, Tr.get_put, setDst, ev, reduceCtorEq, Nat.reduceEqDiff, ↓reduceIte, e0, e1, e5, e6, e14, hge]; first | done | exact rfl))) | (apply ws_cond_f; (focus (simp only [SL, Tr.get_put, setDst, ev, reduceCtorEq, Nat.reduceEqDiff, ↓reduceIte, e0, e1, e5, e6, e14, hge]; first | done | exact rfl))))
      obtain ⟨cap', o3, ha, hg3, ho3⟩ := dappend_one (n := sp.length) (next := nx) (ty := 85) (size := 2) (bytes := 16) (y := spD (a, s.length)) (cs := [.v (.int .i64 a), .v (.int .i64 s.length)]) (cap := cap) g1 (by simp) rfl rfl (by omega) (by omega)
      refine wr_it (d := .own nx 0 (sp.length + 1) cap') (own' := o3) (next' := nx + 1) rfl ?_ ?_
      · simp only [dimp, ev, setDst, Tr.get_put, e0, e1, e5, e6, e14, b2, Nat.reduceEqDiff, ↓reduceIte]
        have : dappend o1 nx 85 2 16 (.own id 0 sp.length cap) (.sl .full [.agg [.v (.int .i64 a), .v (.int .i64 s.length)]]) = some (.own nx 0 (sp.length + 1) cap', o3, nx + 1) := ha
        rw [this]
      repeat (first | refine wr_nil ?_ | refine ws_seq ?_ | refine ws_skip ?_ | (apply wg; (focus (simp only [SL, Tr.get_put, setDst, ev, reduceCtorEq, Nat.reduceEqDiff, ↓reduceIte, dguard, e0, e1, e5, e6, e14]; first | done | exact rfl)); (focus (simp only [dplain, SL, Tr.get_put, ev, evs, evo, dpure, b1, b2, dbinP, dbin, dbinInt, isShift, dlen, dconvP, dconv, didx, natOf, dext, dfld, dun, dload, dfadr, diadr, live, mkval, dimp, dstore, dbuild, dfill, evp, evq, dbslice, dlit, dappend, delems, sizeOK, dmake, smallInt, dslice, dsliceP, bnd, obnd, sliceHdr, dnext, dnilck, D.cells?, Value.oneCell', setDst, Int.cast_ofNat_Int, reduceCtorEq, Nat.reduceEqDiff, Int.reduceToNat, ↓reduceIte, e0, e1, e5, e6, e14]; first | done | exact rfl))) | (apply wh; (focus (simp only [SL, Tr.get_put, setDst, ev, reduceCtorEq, Nat.reduceEqDiff, ↓reduceIte, dguard, e0, e1, e5, e6, e14]; first | done | exact rfl))) | (apply ws_cond_t; (focus (simp only [SL, Tr.get_put, setDst, ev, reduceCtorEq, Nat.reduceEqDiff, ↓reduceIte, e0, e1, e5, e6, e14]; first | done | exact rfl))) | (apply ws_cond_f; (focus (simp only [SL, Tr.get_put, setDst, ev, reduceCtorEq, Nat.reduceEqDiff, ↓reduceIte, e0, e1, e5, e6, e14]; first | done | exact rfl))))
      refine fr _ o3 (nx + 1) nx (sp ++ [(a, s.length)]) cap' (by first | (simp only [SL, Tr.get_put, setDst, ev, reduceCtorEq, Nat.reduceEqDiff, ↓reduceIte, e0]; done) | (simp only [SL, Tr.get_put, setDst, ev, reduceCtorEq, Nat.reduceEqDiff, ↓reduceIte, e0]; exact rfl)) ?_ ?_ (by omega) (by omega) ?_ (by simpa using hsp) ?_ (by simp; omega)
      · simp only [SL, Tr.get_put, ev, evs, evo, dpure, b1, b2, dbinP, dbin, dbinInt, isShift, dlen, dconvP, dconv, didx, natOf, dext, dfld, dun, dload, dfadr, diadr, live, mkval, dimp, dstore, dbuild, dfill, evp, evq, dbslice, dlit, dappend, delems, sizeOK, dmake, smallInt, dslice, dsliceP, bnd, obnd, sliceHdr, dnext, dnilck, D.cells?, Value.oneCell', setDst, Int.cast_ofNat_Int, reduceCtorEq, Nat.reduceEqDiff, Int.reduceToNat, ↓reduceIte]
      · rw [hg3]; simp
      · exact ⟨by have := kp.le; omega, fun j hj => by rw [ho3 j (by omega) (by have := kp.le; omega)]; exact kp.get j hj⟩
      · intro ab hm
        rcases List.mem_append.1 hm with hm | hm
        · exact hab ab hm
        · simp only [List.mem_singleton] at hm; subst hm; exact ⟨by simp only; omega, by simp only; omega⟩

/-- tool.words -/
theorem words_cp (h17 : Has T 17 code17) (h28 : Has T 28 code28) (h29 : Has T 29 code29) (s : List Nat) (hs : s.length ≤ 2 ^ 40) (own : Tr Obj) (next : Nat) :
    Cp T 17 [.str s] own next (fun o own' next' => ∃ id, o = .ok (.own id 0 (wordsL s).length (some (wordsL s).length)) ∧ own'.get id = some (.arr 9 1 ((wordsL s).map .str)) ∧ next ≤ id ∧ id < next' ∧ Kp own next own' next') := by
  refine cp_of h17.1 h17.2 rfl ?_
  simp only [code17, putArgs]
  repeat (first | refine wr_nil ?_ | refine ws_seq ?_ | refine ws_skip ?_ | (apply wg; (focus (simp only [SL, Tr.get_put, setDst, ev, reduceCtorEq, Nat.reduceEqDiff, ↓reduceIte, dguard]; first | done | exact rfl)); (focus (simp only [dplain, SL, Tr.get_put, ev, evs, evo, dpure, b1, b2, dbinP, dbin, dbinInt, isShift, dlen, dconvP, dconv, didx, natOf, dext, dfld, dun, dload, dfadr, diadr, live, mkval, dimp, dstore, dbuild, dfill, evp, evq, dbslice, dlit, dappend, delems, sizeOK, dmake, smallInt, dslice, dsliceP, bnd, obnd, sliceHdr, dnext, dnilck, D.cells?, Value.oneCell', setDst, Int.cast_ofNat_Int, reduceCtorEq, Nat.reduceEqDiff, Int.reduceToNat, ↓reduceIte]; first | done | exact rfl))) | (apply wh; (focus (simp only [SL, Tr.get_put, setDst, ev, reduceCtorEq, Nat.reduceEqDiff, ↓reduceIte, dguard]; first | done | exact rfl))) | (apply ws_cond_t; (focus (simp only [SL, Tr.get_put, setDst, ev, reduceCtorEq, Nat.reduceEqDiff, ↓reduceIte]; first | done | exact rfl))) | (apply ws_cond_f; (focus (simp only [SL, Tr.get_put, setDst, ev, reduceCtorEq, Nat.reduceEqDiff, ↓reduceIte]; first | done | exact rfl))))
  apply wr_call
  focus (simp only [SL, Tr.get_put, ev, evs, evo, dpure, b1, b2, dbinP, dbin, dbinInt, isShift, dlen, dconvP, dconv, didx, natOf, dext, dfld, dun, dload, dfadr, diadr, live, mkval, dimp, dstore, dbuild, dfill, evp, evq, dbslice, dlit, dappend, delems, sizeOK, dmake, smallInt, dslice, dsliceP, bnd, obnd, sliceHdr, dnext, dnilck, D.cells?, Value.oneCell', setDst, Int.cast_ofNat_Int, reduceCtorEq, Nat.reduceEqDiff, Int.reduceToNat, ↓reduceIte]; exact rfl)
  refine (fields_cp h28 h29 s hs own next).mono ?_
  rintro _ o1 n1 ⟨id, rfl, h1, h2, h3, h4⟩
  simp only [Qk]
  repeat (first | refine wr_nil ?_ | refine ws_seq ?_ | refine ws_skip ?_ | (apply wg; (focus (simp only [SL, Tr.get_put, setDst, ev, reduceCtorEq, Nat.reduceEqDiff, ↓reduceIte, dguard]; first | done | exact rfl)); (focus (simp only [dplain, SL, Tr.get_put, ev, evs, evo, dpure, b1, b2, dbinP, dbin, dbinInt, isShift, dlen, dconvP, dconv, didx, natOf, dext, dfld, dun, dload, dfadr, diadr, live, mkval, dimp, dstore, dbuild, dfill, evp, evq, dbslice, dlit, dappend, delems, sizeOK, dmake, smallInt, dslice, dsliceP, bnd, obnd, sliceHdr, dnext, dnilck, D.cells?, Value.oneCell', setDst, Int.cast_ofNat_Int, reduceCtorEq, Nat.reduceEqDiff, Int.reduceToNat, ↓reduceIte]; first | done | exact rfl))) | (apply wh; (focus (simp only [SL, Tr.get_put, setDst, ev, reduceCtorEq, Nat.reduceEqDiff, ↓reduceIte, dguard]; first | done | exact rfl))) | (apply ws_cond_t; (focus (simp only [SL, Tr.get_put, setDst, ev, reduceCtorEq, Nat.reduceEqDiff, ↓reduceIte]; first | done | exact rfl))) | (apply ws_cond_f; (focus (simp only [SL, Tr.get_put, setDst, ev, reduceCtorEq, Nat.reduceEqDiff, ↓reduceIte]; first | done | exact rfl))))
  refine ws_ret ?_
  exact ⟨rfl, _, (by simp only [dress, dres1, SL, Tr.get_put, ev, evs, evo, dpure, b1, b2, dbinP, dbin, dbinInt, isShift, dlen, dconvP, dconv, didx, natOf, dext, dfld, dun, dload, dfadr, diadr, live, mkval, dimp, dstore, dbuild, dfill, evp, evq, dbslice, dlit, dappend, delems, sizeOK, dmake, smallInt, dslice, dsliceP, bnd, obnd, sliceHdr, dnext, dnilck, D.cells?, Value.oneCell', setDst, Int.cast_ofNat_Int, reduceCtorEq, Nat.reduceEqDiff, Int.reduceToNat, ↓reduceIte]; exact rfl), id, rfl, h1, h2, h3, h4⟩
end Gv
