/- Part of the proof of ToolNumbers by an evaluator that is proved sound: W1. No condition of its own. -/
import Derived.Test.YtbhbbjgaahfinaaGreatDoorB28
import Derived.Test.YtbhbbjgaahfinaaGreatDoorC1
set_option linter.unusedVariables false
set_option linter.unusedSimpArgs false
/-! Contracts of small functions: digits, numbers as texts, words' ends, where a word stands. -/
namespace Gv
open Go
set_option linter.unusedVariables false
set_option linter.unusedSimpArgs false
variable {T : Tab}

/-- A table that holds some of the codes. -/
def Has (T : Tab) (f : Nat) (c : FI) : Prop := T.prim f = none ∧ T.code f = some c

theorem take_snoc' {α : Type} (l : List α) (j : Nat) (c : α) (h : l[j]? = some c) : l.take (j + 1) = l.take j ++ [c] := by
  rw [List.take_add_one, h]; rfl

/-! ### Numbers as texts -/
def dig (n : Nat) : List Nat := if h : n ≤ 9 then [48 + n] else dig (n / 10) ++ dig (n % 10)
  termination_by n
  decreasing_by all_goals omega
theorem dig_small {n : Nat} (h : n ≤ 9) : dig n = [48 + n] := by rw [dig, dif_pos h]
theorem dig_big {n : Nat} (h : ¬ n ≤ 9) : dig n = dig (n / 10) ++ dig (n % 10) := by rw [dig, dif_neg h]
theorem dig_length : ∀ n : Nat, (dig n).length ≤ n + 1 := by
  intro n
  induction n using Nat.strongRecOn with
  | _ n ih =>
    by_cases h : n ≤ 9
    · rw [dig_small h]; simp
    · rw [dig_big h, List.length_append, dig_small (show n % 10 ≤ 9 by omega)]
      have := ih (n / 10) (by omega)
      simp; omega
theorem dig_len : ∀ (k n : Nat), n < 10 ^ (k + 1) → (dig n).length ≤ k + 1
  | 0, n, h => by rw [dig_small (by omega)]; simp
  | k + 1, n, h => by
    by_cases h9 : n ≤ 9
    · rw [dig_small h9]; simp
    · rw [dig_big h9, List.length_append, dig_small (show n % 10 ≤ 9 by omega)]
      have := dig_len k (n / 10) (by rw [Nat.pow_succ] at h; omega)
      simp; omega

theorem digits_cp (hT : Has T 25 code25) : ∀ (n : Nat), n < 2 ^ 64 → ∀ (own : Tr Obj) (next : Nat), Cp T 25 [.v (.int .u64 n)] own next (fun o own' next' => o = .ok (.str (dig n)) ∧ own = own' ∧ next = next') := by
  intro n
  induction n using Nat.strongRecOn with
  | _ n ih =>
    intro hn own next
    refine cp_of hT.1 hT.2 rfl ?_
    simp only [code25, putArgs]
    by_cases h9 : (9 : Int) < n
    · have q1 : IntKind.u64.wrap ((n : Int).tdiv 10) = ((n / 10 : Nat) : Int) := by rw [IntWalk.u64_quo _ _ (by omega)]; omega
      have q2 : (n : Int).tmod 10 = ((n % 10 : Nat) : Int) := by rw [Int.tmod_eq_emod_of_nonneg (by omega)]; omega
      repeat (first | refine wr_nil ?_ | refine ws_seq ?_ | refine ws_skip ?_ | (apply wg; (focus (simp only [SL, Tr.get_put, setDst, ev, reduceCtorEq, Nat.reduceEqDiff, ↓reduceIte, dguard, h9, gt_iff_lt, q1]; first | done | exact rfl)); (focus (simp only [dplain, SL, Tr.get_put, ev, evs, evo, dpure, b1, b2, dbinP, dbin, dbinInt, isShift, dlen, dconvP, dconv, didx, natOf, dext, dfld, dun, dload, dfadr, diadr, live, mkval, dimp, dstore, dbuild, dfill, evp, evq, dbslice, dlit, dappend, delems, sizeOK, dmake, smallInt, dslice, dsliceP, bnd, obnd, sliceHdr, dnext, dnilck, D.cells?, Value.oneCell', setDst, Int.cast_ofNat_Int, reduceCtorEq, Nat.reduceEqDiff, Int.reduceToNat, ↓reduceIte, h9, gt_iff_lt, q1]; first | done | exact rfl))) | (apply wh; (focus (simp only [SL, Tr.get_put, setDst, ev, reduceCtorEq, Nat.reduceEqDiff, ↓reduceIte, dguard, h9, gt_iff_lt, q1]; first | done | exact rfl))) | (apply ws_cond_t; (focus (simp only [SL, Tr.get_put, setDst, ev, reduceCtorEq, Nat.reduceEqDiff, ↓reduceIte, h9, gt_iff_lt, q1]; first | done | exact rfl))) | (apply ws_cond_f; (focus (simp only [SL, Tr.get_put, setDst, ev, reduceCtorEq, Nat.reduceEqDiff, ↓reduceIte, h9, gt_iff_lt, q1]; first | done | exact rfl))))
      apply wr_call
      focus (simp only [SL, Tr.get_put, ev, evs, evo, dpure, b1, b2, dbinP, dbin, dbinInt, isShift, dlen, dconvP, dconv, didx, natOf, dext, dfld, dun, dload, dfadr, diadr, live, mkval, dimp, dstore, dbuild, dfill, evp, evq, dbslice, dlit, dappend, delems, sizeOK, dmake, smallInt, dslice, dsliceP, bnd, obnd, sliceHdr, dnext, dnilck, D.cells?, Value.oneCell', setDst, Int.cast_ofNat_Int, reduceCtorEq, Nat.reduceEqDiff, Int.reduceToNat, ↓reduceIte]; exact rfl)
      refine (ih (n / 10) (by omega) (by omega) own next).mono ?_
      rintro _ _ _ ⟨rfl, rfl, rfl⟩
      simp only [Qk]
      repeat (first | refine wr_nil ?_ | refine ws_seq ?_ | refine ws_skip ?_ | (apply wg; (focus (simp only [SL, Tr.get_put, setDst, ev, reduceCtorEq, Nat.reduceEqDiff, ↓reduceIte, dguard, h9, gt_iff_lt, q2]; first | done | exact rfl)); (focus (simp only [dplain, SL, Tr.get_put, ev, evs, evo, dpure, b1, b2, dbinP, dbin, dbinInt, isShift, dlen, dconvP, dconv, didx, natOf, dext, dfld, dun, dload, dfadr, diadr, live, mkval, dimp, dstore, dbuild, dfill, evp, evq, dbslice, dlit, dappend, delems, sizeOK, dmake, smallInt, dslice, dsliceP, bnd, obnd, sliceHdr, dnext, dnilck, D.cells?, Value.oneCell', setDst, Int.cast_ofNat_Int, reduceCtorEq, Nat.reduceEqDiff, Int.reduceToNat, ↓reduceIte, h9, gt_iff_lt, q2]; first | done | exact rfl))) | (apply wh; (focus (simp only [SL, Tr.get_put, setDst, ev, reduceCtorEq, Nat.reduceEqDiff, ↓reduceIte, dguard, h9, gt_iff_lt, q2]; first | done | exact rfl))) | (apply ws_cond_t; (focus (simp only [SL, Tr.get_put, setDst, ev, reduceCtorEq, Nat.reduceEqDiff, ↓reduceIte, h9, gt_iff_lt, q2]; first | done | exact rfl))) | (apply ws_cond_f; (focus (simp only [SL, Tr.get_put, setDst, ev, reduceCtorEq, Nat.reduceEqDiff, ↓reduceIte, h9, gt_iff_lt, q2]; first | done | exact rfl))))
      apply wr_call
      focus (simp only [SL, Tr.get_put, ev, evs, evo, dpure, b1, b2, dbinP, dbin, dbinInt, isShift, dlen, dconvP, dconv, didx, natOf, dext, dfld, dun, dload, dfadr, diadr, live, mkval, dimp, dstore, dbuild, dfill, evp, evq, dbslice, dlit, dappend, delems, sizeOK, dmake, smallInt, dslice, dsliceP, bnd, obnd, sliceHdr, dnext, dnilck, D.cells?, Value.oneCell', setDst, Int.cast_ofNat_Int, reduceCtorEq, Nat.reduceEqDiff, Int.reduceToNat, ↓reduceIte]; exact rfl)
      refine (ih (n % 10) (by omega) (by omega) _ _).mono ?_
      rintro _ _ _ ⟨rfl, rfl, rfl⟩
      simp only [Qk]
      have hl : (dig (n / 10)).length + (dig (n % 10)).length ≤ 2 ^ 47 := by
        have a := dig_len 19 (n / 10) (by omega)
        have b := dig_len 19 (n % 10) (by omega)
        omega
      repeat (first | refine wr_nil ?_ | refine ws_seq ?_ | refine ws_skip ?_ | (apply wg; (focus (simp only [SL, Tr.get_put, setDst, ev, reduceCtorEq, Nat.reduceEqDiff, ↓reduceIte, dguard, h9, gt_iff_lt, hl]; first | done | exact rfl)); (focus (simp only [dplain, SL, Tr.get_put, ev, evs, evo, dpure, b1, b2, dbinP, dbin, dbinInt, isShift, dlen, dconvP, dconv, didx, natOf, dext, dfld, dun, dload, dfadr, diadr, live, mkval, dimp, dstore, dbuild, dfill, evp, evq, dbslice, dlit, dappend, delems, sizeOK, dmake, smallInt, dslice, dsliceP, bnd, obnd, sliceHdr, dnext, dnilck, D.cells?, Value.oneCell', setDst, Int.cast_ofNat_Int, reduceCtorEq, Nat.reduceEqDiff, Int.reduceToNat, ↓reduceIte, h9, gt_iff_lt, hl]; first | done | exact rfl))) | (apply wh; (focus (simp only [SL, Tr.get_put, setDst, ev, reduceCtorEq, Nat.reduceEqDiff, ↓reduceIte, dguard, h9, gt_iff_lt, hl]; first | done | exact rfl))) | (apply ws_cond_t; (focus (simp only [SL, Tr.get_put, setDst, ev, reduceCtorEq, Nat.reduceEqDiff, ↓reduceIte, h9, gt_iff_lt, hl]; first | done | exact rfl))) | (apply ws_cond_f; (focus (simp only [SL, Tr.get_put, setDst, ev, reduceCtorEq, Nat.reduceEqDiff, ↓reduceIte, h9, gt_iff_lt, hl]; first | done | exact rfl))))
      refine ws_ret ⟨rfl, _, (by simp only [dress, dres1, SL, Tr.get_put, ev, evs, evo, dpure, b1, b2, dbinP, dbin, dbinInt, isShift, dlen, dconvP, dconv, didx, natOf, dext, dfld, dun, dload, dfadr, diadr, live, mkval, dimp, dstore, dbuild, dfill, evp, evq, dbslice, dlit, dappend, delems, sizeOK, dmake, smallInt, dslice, dsliceP, bnd, obnd, sliceHdr, dnext, dnilck, D.cells?, Value.oneCell', setDst, Int.cast_ofNat_Int, reduceCtorEq, Nat.reduceEqDiff, Int.reduceToNat, ↓reduceIte]; exact rfl), ?_, rfl, rfl⟩
      simp only [tupOf]
      rw [← dig_big (by omega)]
    · have hle : n ≤ 9 := by omega
      have q1 : IntKind.u64.wrap ((n : Int) + 1) = (n : Int) + 1 := IntWalk.u64_in _ (by omega)
      have q2 : ((n : Int) + 1).toNat = n + 1 := by omega
      have q3 : (0 : Int) ≤ (n : Int) + 1 := by omega
      have q4 : (0 : Int) ≤ (n : Int) := by omega
      have q5 : n ≤ n + 1 ∧ n + 1 ≤ 0 + 1 + 1 + 1 + 1 + 1 + 1 + 1 + 1 + 1 + 1 := by omega
      have q6 : (([48, 49, 50, 51, 52, 53, 54, 55, 56, 57] : List Nat).drop n).take (n + 1 - n) = [48 + n] := by
        have : n = 0 ∨ n = 1 ∨ n = 2 ∨ n = 3 ∨ n = 4 ∨ n = 5 ∨ n = 6 ∨ n = 7 ∨ n = 8 ∨ n = 9 := by omega
        rcases this with rfl | rfl | rfl | rfl | rfl | rfl | rfl | rfl | rfl | rfl <;> rfl
      repeat (first | refine wr_nil ?_ | refine ws_seq ?_ | refine ws_skip ?_ | (apply wg; (focus (simp only [SL, Tr.get_put, setDst, ev, reduceCtorEq, Nat.reduceEqDiff, ↓reduceIte, dguard, h9, gt_iff_lt, q1, q2, q3, q4, q5, Int.toNat_natCast, q6, and_self, if_true]; first | done | exact rfl)); (focus (simp only [dplain, SL, Tr.get_put, ev, evs, evo, dpure, b1, b2, dbinP, dbin, dbinInt, isShift, dlen, dconvP, dconv, didx, natOf, dext, dfld, dun, dload, dfadr, diadr, live, mkval, dimp, dstore, dbuild, dfill, evp, evq, dbslice, dlit, dappend, delems, sizeOK, dmake, smallInt, dslice, dsliceP, bnd, obnd, sliceHdr, dnext, dnilck, D.cells?, Value.oneCell', setDst, Int.cast_ofNat_Int, reduceCtorEq, Nat.reduceEqDiff, Int.reduceToNat, ↓reduceIte, h9, gt_iff_lt, q1, q2, q3, q4, q5, Int.toNat_natCast, q6, and_self, if_true]; first | done | exact rfl))) | (apply wh; (focus (simp only [SL, Tr.get_put, setDst, ev, reduceCtorEq, Nat.reduceEqDiff, ↓reduceIte, dguard, h9, gt_iff_lt, q1, q2, q3, q4, q5, Int.toNat_natCast, q6, and_self, if_true]; first | done | exact rfl))) | (apply ws_cond_t; (focus (simp only [SL, Tr.get_put, setDst, ev, reduceCtorEq, Nat.reduceEqDiff, ↓reduceIte, h9, gt_iff_lt, q1, q2, q3, q4, q5, Int.toNat_natCast, q6, and_self, if_true]; first | done | exact rfl))) | (apply ws_cond_f; (focus (simp only [SL, Tr.get_put, setDst, ev, reduceCtorEq, Nat.reduceEqDiff, ↓reduceIte, h9, gt_iff_lt, q1, q2, q3, q4, q5, Int.toNat_natCast, q6, and_self, if_true]; first | done | exact rfl))))
      refine ws_ret ⟨rfl, _, (by simp only [dress, dres1, SL, Tr.get_put, ev, evs, evo, dpure, b1, b2, dbinP, dbin, dbinInt, isShift, dlen, dconvP, dconv, didx, natOf, dext, dfld, dun, dload, dfadr, diadr, live, mkval, dimp, dstore, dbuild, dfill, evp, evq, dbslice, dlit, dappend, delems, sizeOK, dmake, smallInt, dslice, dsliceP, bnd, obnd, sliceHdr, dnext, dnilck, D.cells?, Value.oneCell', setDst, Int.cast_ofNat_Int, reduceCtorEq, Nat.reduceEqDiff, Int.reduceToNat, ↓reduceIte]; exact rfl), ?_, rfl, rfl⟩
      simp only [tupOf]
      rw [dig_small hle]

def numText (n : Int) : List Nat := if n < 0 then 45 :: dig (n.natAbs) else dig n.toNat
/-- Num: of every int. -/
theorem num_cp (hT : Has T 25 code25) (hN : Has T 13 code13) (n : Int) (h1 : -9223372036854775808 ≤ n) (h2 : n ≤ 9223372036854775807) (own : Tr Obj) (next : Nat) :
    Cp T 13 [.v (.int .i64 n)] own next (fun o own' next' => o = .ok (.str (numText n)) ∧ own = own' ∧ next = next') := by
  refine cp_of hN.1 hN.2 rfl ?_
  simp only [code13, putArgs]
  by_cases h0 : n < 0
  · have q1 : IntKind.u64.wrap n = n + 18446744073709551616 := by simp [IntKind.wrap, IntKind.bits, IntKind.signed]; omega
    have q2 : IntKind.u64.wrap (0 - (n + 18446744073709551616)) = ((n.natAbs : Nat) : Int) := by simp [IntKind.wrap, IntKind.bits, IntKind.signed]; omega
    repeat (first | refine wr_nil ?_ | refine ws_seq ?_ | refine ws_skip ?_ | (apply wg; (focus (simp only [SL, Tr.get_put, setDst, ev, reduceCtorEq, Nat.reduceEqDiff, ↓reduceIte, dguard, h0, q1, q2]; first | done | exact rfl)); (focus (simp only [dplain, SL, Tr.get_put, ev, evs, evo, dpure, b1, b2, dbinP, dbin, dbinInt, isShift, dlen, dconvP, dconv, didx, natOf, dext, dfld, dun, dload, dfadr, diadr, live, mkval, dimp, dstore, dbuild, dfill, evp, evq, dbslice, dlit, dappend, delems, sizeOK, dmake, smallInt, dslice, dsliceP, bnd, obnd, sliceHdr, dnext, dnilck, D.cells?, Value.oneCell', setDst, Int.cast_ofNat_Int, reduceCtorEq, Nat.reduceEqDiff, Int.reduceToNat, ↓reduceIte, h0, q1, q2]; first | done | exact rfl))) | (apply wh; (focus (simp only [SL, Tr.get_put, setDst, ev, reduceCtorEq, Nat.reduceEqDiff, ↓reduceIte, dguard, h0, q1, q2]; first | done | exact rfl))) | (apply ws_cond_t; (focus (simp only [SL, Tr.get_put, setDst, ev, reduceCtorEq, Nat.reduceEqDiff, ↓reduceIte, h0, q1, q2]; first | done | exact rfl))) | (apply ws_cond_f; (focus (simp only [SL, Tr.get_put, setDst, ev, reduceCtorEq, Nat.reduceEqDiff, ↓reduceIte, h0, q1, q2]; first | done | exact rfl))))
    apply wr_call
    focus (simp only [SL, Tr.get_put, ev, evs, evo, dpure, b1, b2, dbinP, dbin, dbinInt, isShift, dlen, dconvP, dconv, didx, natOf, dext, dfld, dun, dload, dfadr, diadr, live, mkval, dimp, dstore, dbuild, dfill, evp, evq, dbslice, dlit, dappend, delems, sizeOK, dmake, smallInt, dslice, dsliceP, bnd, obnd, sliceHdr, dnext, dnilck, D.cells?, Value.oneCell', setDst, Int.cast_ofNat_Int, reduceCtorEq, Nat.reduceEqDiff, Int.reduceToNat, ↓reduceIte]; exact rfl)
    refine (digits_cp hT n.natAbs (by omega) own next).mono ?_
    rintro _ _ _ ⟨rfl, rfl, rfl⟩
    simp only [Qk]
    have hl : 0 + 1 + (dig n.natAbs).length ≤ 2 ^ 47 := by
      have a := dig_len 19 n.natAbs (by omega)
      omega
    repeat (first | refine wr_nil ?_ | refine ws_seq ?_ | refine ws_skip ?_ | (apply wg; (focus (simp only [SL, Tr.get_put, setDst, ev, reduceCtorEq, Nat.reduceEqDiff, ↓reduceIte, dguard, h0, hl]; first | done | exact rfl)); (focus (simp only [dplain, SL, Tr.get_put, ev, evs, evo, dpure, b1, b2, dbinP, dbin, dbinInt, isShift, dlen, dconvP, dconv, didx, natOf, dext, dfld, dun, dload, dfadr, diadr, live, mkval, dimp, dstore, dbuild, dfill, evp, evq, dbslice, dlit, dappend, delems, sizeOK, dmake, smallInt, dslice, dsliceP, bnd, obnd, sliceHdr, dnext, dnilck, D.cells?, Value.oneCell', setDst, Int.cast_ofNat_Int, reduceCtorEq, Nat.reduceEqDiff, Int.reduceToNat, ↓reduceIte, h0, hl]; first | done | exact rfl))) | (apply wh; (focus (simp only [SL, Tr.get_put, setDst, ev, reduceCtorEq, Nat.reduceEqDiff, ↓reduceIte, dguard, h0, hl]; first | done | exact rfl))) | (apply ws_cond_t; (focus (simp only [SL, Tr.get_put, setDst, ev, reduceCtorEq, Nat.reduceEqDiff, ↓reduceIte, h0, hl]; first | done | exact rfl))) | (apply ws_cond_f; (focus (simp only [SL, Tr.get_put, setDst, ev, reduceCtorEq, Nat.reduceEqDiff, ↓reduceIte, h0, hl]; first | done | exact rfl))))
    refine ws_ret ⟨rfl, _, (by simp only [dress, dres1, SL, Tr.get_put, ev, evs, evo, dpure, b1, b2, dbinP, dbin, dbinInt, isShift, dlen, dconvP, dconv, didx, natOf, dext, dfld, dun, dload, dfadr, diadr, live, mkval, dimp, dstore, dbuild, dfill, evp, evq, dbslice, dlit, dappend, delems, sizeOK, dmake, smallInt, dslice, dsliceP, bnd, obnd, sliceHdr, dnext, dnilck, D.cells?, Value.oneCell', setDst, Int.cast_ofNat_Int, reduceCtorEq, Nat.reduceEqDiff, Int.reduceToNat, ↓reduceIte]; exact rfl), ?_, rfl, rfl⟩
    simp [tupOf, numText, h0]
  · have q1 : IntKind.u64.wrap n = ((n.toNat : Nat) : Int) := by simp [IntKind.wrap, IntKind.bits, IntKind.signed]; omega
    repeat (first | refine wr_nil ?_ | refine ws_seq ?_ | refine ws_skip ?_ | (apply wg; (focus (simp only [SL, Tr.get_put, setDst, ev, reduceCtorEq, Nat.reduceEqDiff, ↓reduceIte, dguard, h0, q1]; first | done | exact rfl)); (focus (simp only [dplain, SL, Tr.get_put, ev, evs, evo, dpure, b1, b2, dbinP, dbin, dbinInt, isShift, dlen, dconvP, dconv, didx, natOf, dext, dfld, dun, dload, dfadr, diadr, live, mkval, dimp, dstore, dbuild, dfill, evp, evq, dbslice, dlit, dappend, delems, sizeOK, dmake, smallInt, dslice, dsliceP, bnd, obnd, sliceHdr, dnext, dnilck, D.cells?, Value.oneCell', setDst, Int.cast_ofNat_Int, reduceCtorEq, Nat.reduceEqDiff, Int.reduceToNat, ↓reduceIte, h0, q1]; first | done | exact rfl))) | (apply wh; (focus (simp only [SL, Tr.get_put, setDst, ev, reduceCtorEq, Nat.reduceEqDiff, ↓reduceIte, dguard, h0, q1]; first | done | exact rfl))) | (apply ws_cond_t; (focus (simp only [SL, Tr.get_put, setDst, ev, reduceCtorEq, Nat.reduceEqDiff, ↓reduceIte, h0, q1]; first | done | exact rfl))) | (apply ws_cond_f; (focus (simp only [SL, Tr.get_put, setDst, ev, reduceCtorEq, Nat.reduceEqDiff, ↓reduceIte, h0, q1]; first | done | exact rfl))))
    apply wr_call
    focus (simp only [SL, Tr.get_put, ev, evs, evo, dpure, b1, b2, dbinP, dbin, dbinInt, isShift, dlen, dconvP, dconv, didx, natOf, dext, dfld, dun, dload, dfadr, diadr, live, mkval, dimp, dstore, dbuild, dfill, evp, evq, dbslice, dlit, dappend, delems, sizeOK, dmake, smallInt, dslice, dsliceP, bnd, obnd, sliceHdr, dnext, dnilck, D.cells?, Value.oneCell', setDst, Int.cast_ofNat_Int, reduceCtorEq, Nat.reduceEqDiff, Int.reduceToNat, ↓reduceIte]; exact rfl)
    refine (digits_cp hT n.toNat (by omega) own next).mono ?_
    rintro _ _ _ ⟨rfl, rfl, rfl⟩
    simp only [Qk]
    repeat (first | refine wr_nil ?_ | refine ws_seq ?_ | refine ws_skip ?_ | (apply wg; (focus (simp only [SL, Tr.get_put, setDst, ev, reduceCtorEq, Nat.reduceEqDiff, ↓reduceIte, dguard, h0]; first | done | exact rfl)); (focus (simp only [dplain, SL, Tr.get_put, ev, evs, evo, dpure, b1, b2, dbinP, dbin, dbinInt, isShift, dlen, dconvP, dconv, didx, natOf, dext, dfld, dun, dload, dfadr, diadr, live, mkval, dimp, dstore, dbuild, dfill, evp, evq, dbslice, dlit, dappend, delems, sizeOK, dmake, smallInt, dslice, dsliceP, bnd, obnd, sliceHdr, dnext, dnilck, D.cells?, Value.oneCell', setDst, Int.cast_ofNat_Int, reduceCtorEq, Nat.reduceEqDiff, Int.reduceToNat, ↓reduceIte, h0]; first | done | exact rfl))) | (apply wh; (focus (simp only [SL, Tr.get_put, setDst, ev, reduceCtorEq, Nat.reduceEqDiff, ↓reduceIte, dguard, h0]; first | done | exact rfl))) | (apply ws_cond_t; (focus (simp only [SL, Tr.get_put, setDst, ev, reduceCtorEq, Nat.reduceEqDiff, ↓reduceIte, h0]; first | done | exact rfl))) | (apply ws_cond_f; (focus (simp only [SL, Tr.get_put, setDst, ev, reduceCtorEq, Nat.reduceEqDiff, ↓reduceIte, h0]; first | done | exact rfl))))
    refine ws_ret ⟨rfl, _, (by simp only [dress, dres1, SL, Tr.get_put, ev, evs, evo, dpure, b1, b2, dbinP, dbin, dbinInt, isShift, dlen, dconvP, dconv, didx, natOf, dext, dfld, dun, dload, dfadr, diadr, live, mkval, dimp, dstore, dbuild, dfill, evp, evq, dbslice, dlit, dappend, delems, sizeOK, dmake, smallInt, dslice, dsliceP, bnd, obnd, sliceHdr, dnext, dnilck, D.cells?, Value.oneCell', setDst, Int.cast_ofNat_Int, reduceCtorEq, Nat.reduceEqDiff, Int.reduceToNat, ↓reduceIte]; exact rfl), ?_, rfl, rfl⟩
    simp [tupOf, numText, h0]

/-! ### Is it a blank? -/
theorem blank_cp (hT : Has T 29 code29) (c : Int) (own : Tr Obj) (next : Nat) : Cp T 29 [.v (.int .i32 c)] own next (fun o own' next' => o = .ok (.v (.bool (c == 32))) ∧ own = own' ∧ next = next') := by
  refine cp_of hT.1 hT.2 rfl ?_
  simp only [code29, putArgs]
  repeat (first | refine wr_nil ?_ | refine ws_seq ?_ | refine ws_skip ?_ | (apply wg; (focus (simp only [SL, Tr.get_put, setDst, ev, reduceCtorEq, Nat.reduceEqDiff, ↓reduceIte, dguard]; first | done | exact rfl)); (focus (simp only [dplain, SL, Tr.get_put, ev, evs, evo, dpure, b1, b2, dbinP, dbin, dbinInt, isShift, dlen, dconvP, dconv, didx, natOf, dext, dfld, dun, dload, dfadr, diadr, live, mkval, dimp, dstore, dbuild, dfill, evp, evq, dbslice, dlit, dappend, delems, sizeOK, dmake, smallInt, dslice, dsliceP, bnd, obnd, sliceHdr, dnext, dnilck, D.cells?, Value.oneCell', setDst, Int.cast_ofNat_Int, reduceCtorEq, Nat.reduceEqDiff, Int.reduceToNat, ↓reduceIte]; first | done | exact rfl))) | (apply wh; (focus (simp only [SL, Tr.get_put, setDst, ev, reduceCtorEq, Nat.reduceEqDiff, ↓reduceIte, dguard]; first | done | exact rfl))) | (apply ws_cond_t; (focus (simp only [SL, Tr.get_put, setDst, ev, reduceCtorEq, Nat.reduceEqDiff, ↓reduceIte]; first | done | exact rfl))) | (apply ws_cond_f; (focus (simp only [SL, Tr.get_put, setDst, ev, reduceCtorEq, Nat.reduceEqDiff, ↓reduceIte]; first | done | exact rfl))))
  exact ws_ret ⟨rfl, _, (by simp only [dress, dres1, SL, Tr.get_put, ev, evs, evo, dpure, b1, b2, dbinP, dbin, dbinInt, isShift, dlen, dconvP, dconv, didx, natOf, dext, dfld, dun, dload, dfadr, diadr, live, mkval, dimp, dstore, dbuild, dfill, evp, evq, dbslice, dlit, dappend, delems, sizeOK, dmake, smallInt, dslice, dsliceP, bnd, obnd, sliceHdr, dnext, dnilck, D.cells?, Value.oneCell', setDst, Int.cast_ofNat_Int, reduceCtorEq, Nat.reduceEqDiff, Int.reduceToNat, ↓reduceIte]; exact rfl), rfl, rfl, rfl⟩

/-! ### Where a word stands -/
def idxI (xs : List (List Nat)) (v : List Nat) : Int := match xs.idxOf? v with | some i => i | none => -1
theorem take_idx (xs : List (List Nat)) (v : List Nat) (j : Nat) (h : ∀ x ∈ xs.take j, x ≠ v) (hj : xs[j]? = some v) : xs.idxOf? v = some j := by
  rw [List.idxOf?_eq_some_iff]
  obtain ⟨hlt, he⟩ := List.getElem?_eq_some_iff.1 hj
  refine ⟨hlt, he, fun i hi => h _ ?_⟩
  rw [List.mem_take_iff_getElem]
  exact ⟨i, by omega, rfl⟩
theorem index_cp (hT : Has T 18 code18) (hd : Hdr) (xs : List (List Nat)) (v : List Nat) (hx : xs.length ≤ 2 ^ 40) (own : Tr Obj) (next : Nat) : Cp T 18 [.sl hd (xs.map .str), .str v] own next (fun o own' next' => o = .ok (.v (.int .i64 (idxI xs v))) ∧ own = own' ∧ next = next') := by
  refine cp_of hT.1 hT.2 rfl ?_
  simp only [code18, putArgs]
  repeat (first | refine wr_nil ?_ | refine ws_seq ?_ | refine ws_skip ?_ | (apply wg; (focus (simp only [SL, Tr.get_put, setDst, ev, reduceCtorEq, Nat.reduceEqDiff, ↓reduceIte, dguard]; first | done | exact rfl)); (focus (simp only [dplain, SL, Tr.get_put, ev, evs, evo, dpure, b1, b2, dbinP, dbin, dbinInt, isShift, dlen, dconvP, dconv, didx, natOf, dext, dfld, dun, dload, dfadr, diadr, live, mkval, dimp, dstore, dbuild, dfill, evp, evq, dbslice, dlit, dappend, delems, sizeOK, dmake, smallInt, dslice, dsliceP, bnd, obnd, sliceHdr, dnext, dnilck, D.cells?, Value.oneCell', setDst, Int.cast_ofNat_Int, reduceCtorEq, Nat.reduceEqDiff, Int.reduceToNat, ↓reduceIte]; first | done | exact rfl))) | (apply wh; (focus (simp only [SL, Tr.get_put, setDst, ev, reduceCtorEq, Nat.reduceEqDiff, ↓reduceIte, dguard]; first | done | exact rfl))) | (apply ws_cond_t; (focus (simp only [SL, Tr.get_put, setDst, ev, reduceCtorEq, Nat.reduceEqDiff, ↓reduceIte]; first | done | exact rfl))) | (apply ws_cond_f; (focus (simp only [SL, Tr.get_put, setDst, ev, reduceCtorEq, Nat.reduceEqDiff, ↓reduceIte]; first | done | exact rfl))))
  refine ws_block ?_
  refine ws_loop (I := fun k st => ∃ (E : Tr D) (j : Nat), st = ⟨E, own, next, []⟩ ∧ k + j = xs.length ∧ E.get 0 = some (.sl hd (xs.map .str)) ∧ E.get 1 = some (.str v) ∧ E.get 7 = some (.v (.int .i64 xs.length)) ∧ E.get 8 = some (.v (.int .i64 j)) ∧ ∀ x ∈ xs.take j, x ≠ v) (k := xs.length) ⟨_, 0, rfl, rfl, (by first | (simp only [SL, Tr.get_put, setDst, ev, reduceCtorEq, Nat.reduceEqDiff, ↓reduceIte]; done) | (simp only [SL, Tr.get_put, setDst, ev, reduceCtorEq, Nat.reduceEqDiff, ↓reduceIte]; exact rfl)), (by first | (simp only [SL, Tr.get_put, setDst, ev, reduceCtorEq, Nat.reduceEqDiff, ↓reduceIte]; done) | (simp only [SL, Tr.get_put, setDst, ev, reduceCtorEq, Nat.reduceEqDiff, ↓reduceIte]; exact rfl)), (by first | (simp only [SL, Tr.get_put, setDst, ev, reduceCtorEq, Nat.reduceEqDiff, ↓reduceIte]; done) | (simp only [SL, Tr.get_put, setDst, ev, reduceCtorEq, Nat.reduceEqDiff, ↓reduceIte]; exact rfl)), (by first | (simp only [SL, Tr.get_put, setDst, ev, reduceCtorEq, Nat.reduceEqDiff, ↓reduceIte]; done) | (simp only [SL, Tr.get_put, setDst, ev, reduceCtorEq, Nat.reduceEqDiff, ↓reduceIte]; exact rfl)), by simp⟩ ?_
  rintro k _ ⟨E, j, rfl, hk, e0, e1, e7, e8, hall⟩
  by_cases hj : (j : Int) < xs.length
  · obtain ⟨y, hy⟩ : ∃ y, xs[j]? = some y := ⟨xs[j]'(by omega), by simp⟩
    have hy2 : (xs.map D.str)[j]? = some (.str y) := by simp [hy]
    have n0 : (0 : Int) ≤ (j : Int) := by omega
    have w1 : IntKind.i64.wrap ((j : Int) + 1) = (j : Int) + 1 := IntWalk.i64_in _ (by omega)
    by_cases hv : v = y
    · subst hv
      repeat (first | refine wr_nil ?_ | refine ws_seq ?_ | refine ws_skip ?_ | (apply wg; (focus (simp only [SL, Tr.get_put, setDst, ev, reduceCtorEq, Nat.reduceEqDiff, ↓reduceIte, dguard, hj, e0, e1, e7, e8]; first | done | exact rfl)); (focus (simp only [dplain, SL, Tr.get_put, ev, evs, evo, dpure, b1, b2, dbinP, dbin, dbinInt, isShift, dlen, dconvP, dconv, didx, natOf, dext, dfld, dun, dload, dfadr, diadr, live, mkval, dimp, dstore, dbuild, dfill, evp, evq, dbslice, dlit, dappend, delems, sizeOK, dmake, smallInt, dslice, dsliceP, bnd, obnd, sliceHdr, dnext, dnilck, D.cells?, Value.oneCell', setDst, Int.cast_ofNat_Int, reduceCtorEq, Nat.reduceEqDiff, Int.reduceToNat, ↓reduceIte, hj, e0, e1, e7, e8]; first | done | exact rfl))) | (apply wh; (focus (simp only [SL, Tr.get_put, setDst, ev, reduceCtorEq, Nat.reduceEqDiff, ↓reduceIte, dguard, hj, e0, e1, e7, e8]; first | done | exact rfl))) | (apply ws_cond_t; (focus (simp only [SL, Tr.get_put, setDst, ev, reduceCtorEq, Nat.reduceEqDiff, ↓reduceIte, hj, e0, e1, e7, e8]; first | done | exact rfl))) | (apply ws_cond_f; (focus (simp only [SL, Tr.get_put, setDst, ev, reduceCtorEq, Nat.reduceEqDiff, ↓reduceIte, hj, e0, e1, e7, e8]; first | done | exact rfl))))
      refine ws_block ?_
      repeat (first | refine wr_nil ?_ | refine ws_seq ?_ | refine ws_skip ?_ | (apply wg; (focus (simp only [SL, Tr.get_put, setDst, ev, reduceCtorEq, Nat.reduceEqDiff, ↓reduceIte, dguard, hj, e0, e1, e7, e8, n0, Int.toNat_natCast, hy2, beq_self_eq_true]; first | done | exact rfl)); (focus (simp only [dplain, SL, Tr.get_put, ev, evs, evo, dpure, b1, b2, dbinP, dbin, dbinInt, isShift, dlen, dconvP, dconv, didx, natOf, dext, dfld, dun, dload, dfadr, diadr, live, mkval, dimp, dstore, dbuild, dfill, evp, evq, dbslice, dlit, dappend, delems, sizeOK, dmake, smallInt, dslice, dsliceP, bnd, obnd, sliceHdr, dnext, dnilck, D.cells?, Value.oneCell', setDst, Int.cast_ofNat_Int, reduceCtorEq, Nat.reduceEqDiff, Int.reduceToNat, ↓reduceIte, hj, e0, e1, e7, e8, n0, Int.toNat_natCast, hy2, beq_self_eq_true]; first | done | exact rfl))) | (apply wh; (focus (simp only [SL, Tr.get_put, setDst, ev, reduceCtorEq, Nat.reduceEqDiff, ↓reduceIte, dguard, hj, e0, e1, e7, e8, n0, Int.toNat_natCast, hy2, beq_self_eq_true]; first | done | exact rfl))) | (apply ws_cond_t; (focus (simp only [SL, Tr.get_put, setDst, ev, reduceCtorEq, Nat.reduceEqDiff, ↓reduceIte, hj, e0, e1, e7, e8, n0, Int.toNat_natCast, hy2, beq_self_eq_true]; first | done | exact rfl))) | (apply ws_cond_f; (focus (simp only [SL, Tr.get_put, setDst, ev, reduceCtorEq, Nat.reduceEqDiff, ↓reduceIte, hj, e0, e1, e7, e8, n0, Int.toNat_natCast, hy2, beq_self_eq_true]; first | done | exact rfl))))
      refine ws_ret ⟨rfl, _, (by simp only [dress, dres1, SL, Tr.get_put, ev, evs, evo, dpure, b1, b2, dbinP, dbin, dbinInt, isShift, dlen, dconvP, dconv, didx, natOf, dext, dfld, dun, dload, dfadr, diadr, live, mkval, dimp, dstore, dbuild, dfill, evp, evq, dbslice, dlit, dappend, delems, sizeOK, dmake, smallInt, dslice, dsliceP, bnd, obnd, sliceHdr, dnext, dnilck, D.cells?, Value.oneCell', setDst, Int.cast_ofNat_Int, reduceCtorEq, Nat.reduceEqDiff, Int.reduceToNat, ↓reduceIte]; exact rfl), ?_, rfl, rfl⟩
      simp [tupOf, idxI, take_idx xs v j hall hy]
    · have hvb : (v == y) = false := by simpa using hv
      repeat (first | refine wr_nil ?_ | refine ws_seq ?_ | refine ws_skip ?_ | (apply wg; (focus (simp only [SL, Tr.get_put, setDst, ev, reduceCtorEq, Nat.reduceEqDiff, ↓reduceIte, dguard, hj, e0, e1, e7, e8]; first | done | exact rfl)); (focus (simp only [dplain, SL, Tr.get_put, ev, evs, evo, dpure, b1, b2, dbinP, dbin, dbinInt, isShift, dlen, dconvP, dconv, didx, natOf, dext, dfld, dun, dload, dfadr, diadr, live, mkval, dimp, dstore, dbuild, dfill, evp, evq, dbslice, dlit, dappend, delems, sizeOK, dmake, smallInt, dslice, dsliceP, bnd, obnd, sliceHdr, dnext, dnilck, D.cells?, Value.oneCell', setDst, Int.cast_ofNat_Int, reduceCtorEq, Nat.reduceEqDiff, Int.reduceToNat, ↓reduceIte, hj, e0, e1, e7, e8]; first | done | exact rfl))) | (apply wh; (focus (simp only [SL, Tr.get_put, setDst, ev, reduceCtorEq, Nat.reduceEqDiff, ↓reduceIte, dguard, hj, e0, e1, e7, e8]; first | done | exact rfl))) | (apply ws_cond_t; (focus (simp only [SL, Tr.get_put, setDst, ev, reduceCtorEq, Nat.reduceEqDiff, ↓reduceIte, hj, e0, e1, e7, e8]; first | done | exact rfl))) | (apply ws_cond_f; (focus (simp only [SL, Tr.get_put, setDst, ev, reduceCtorEq, Nat.reduceEqDiff, ↓reduceIte, hj, e0, e1, e7, e8]; first | done | exact rfl))))
      refine ws_block ?_
      repeat (first | refine wr_nil ?_ | refine ws_seq ?_ | refine ws_skip ?_ | (apply wg; (focus (simp only [SL, Tr.get_put, setDst, ev, reduceCtorEq, Nat.reduceEqDiff, ↓reduceIte, dguard, hj, e0, e1, e7, e8, n0, Int.toNat_natCast, hy2, hvb, w1]; first | done | exact rfl)); (focus (simp only [dplain, SL, Tr.get_put, ev, evs, evo, dpure, b1, b2, dbinP, dbin, dbinInt, isShift, dlen, dconvP, dconv, didx, natOf, dext, dfld, dun, dload, dfadr, diadr, live, mkval, dimp, dstore, dbuild, dfill, evp, evq, dbslice, dlit, dappend, delems, sizeOK, dmake, smallInt, dslice, dsliceP, bnd, obnd, sliceHdr, dnext, dnilck, D.cells?, Value.oneCell', setDst, Int.cast_ofNat_Int, reduceCtorEq, Nat.reduceEqDiff, Int.reduceToNat, ↓reduceIte, hj, e0, e1, e7, e8, n0, Int.toNat_natCast, hy2, hvb, w1]; first | done | exact rfl))) | (apply wh; (focus (simp only [SL, Tr.get_put, setDst, ev, reduceCtorEq, Nat.reduceEqDiff, ↓reduceIte, dguard, hj, e0, e1, e7, e8, n0, Int.toNat_natCast, hy2, hvb, w1]; first | done | exact rfl))) | (apply ws_cond_t; (focus (simp only [SL, Tr.get_put, setDst, ev, reduceCtorEq, Nat.reduceEqDiff, ↓reduceIte, hj, e0, e1, e7, e8, n0, Int.toNat_natCast, hy2, hvb, w1]; first | done | exact rfl))) | (apply ws_cond_f; (focus (simp only [SL, Tr.get_put, setDst, ev, reduceCtorEq, Nat.reduceEqDiff, ↓reduceIte, hj, e0, e1, e7, e8, n0, Int.toNat_natCast, hy2, hvb, w1]; first | done | exact rfl))))
      refine ⟨k - 1, by omega, _, j + 1, rfl, by omega, (by first | (simp only [SL, Tr.get_put, setDst, ev, reduceCtorEq, Nat.reduceEqDiff, ↓reduceIte, e0]; done) | (simp only [SL, Tr.get_put, setDst, ev, reduceCtorEq, Nat.reduceEqDiff, ↓reduceIte, e0]; exact rfl)), (by first | (simp only [SL, Tr.get_put, setDst, ev, reduceCtorEq, Nat.reduceEqDiff, ↓reduceIte, e1]; done) | (simp only [SL, Tr.get_put, setDst, ev, reduceCtorEq, Nat.reduceEqDiff, ↓reduceIte, e1]; exact rfl)), (by first | (simp only [SL, Tr.get_put, setDst, ev, reduceCtorEq, Nat.reduceEqDiff, ↓reduceIte, e7]; done) | (simp only [SL, Tr.get_put, setDst, ev, reduceCtorEq, Nat.reduceEqDiff, ↓reduceIte, e7]; exact rfl)), (by first | (simp only [SL, Tr.get_put, setDst, ev, reduceCtorEq, Nat.reduceEqDiff, ↓reduceIte]; done) | (simp only [SL, Tr.get_put, setDst, ev, reduceCtorEq, Nat.reduceEqDiff, ↓reduceIte]; exact rfl)), ?_⟩
      rw [take_snoc' xs j y hy]
      intro x hx
      rcases List.mem_append.1 hx with hx | hx
      · exact hall x hx
      · simp at hx; subst hx; exact fun h => hv h.symm
  · repeat (first | refine wr_nil ?_ | refine ws_seq ?_ | refine ws_skip ?_ | (apply wg; (focus (simp only [SL, Tr.get_put, setDst, ev, reduceCtorEq, Nat.reduceEqDiff, ↓reduceIte, dguard, hj, e0, e1, e7, e8]; first | done | exact rfl)); (focus (simp only [dplain, SL, Tr.get_put, ev, evs, evo, dpure, b1, b2, dbinP, dbin, dbinInt, isShift, dlen, dconvP, dconv, didx, natOf, dext, dfld, dun, dload, dfadr, diadr, live, mkval, dimp, dstore, dbuild, dfill, evp, evq, dbslice, dlit, dappend, delems, sizeOK, dmake, smallInt, dslice, dsliceP, bnd, obnd, sliceHdr, dnext, dnilck, D.cells?, Value.oneCell', setDst, Int.cast_ofNat_Int, reduceCtorEq, Nat.reduceEqDiff, Int.reduceToNat, ↓reduceIte, hj, e0, e1, e7, e8]; first | done | exact rfl))) | (apply wh; (focus (simp only [SL, Tr.get_put, setDst, ev, reduceCtorEq, Nat.reduceEqDiff, ↓reduceIte, dguard, hj, e0, e1, e7, e8]; first | done | exact rfl))) | (apply ws_cond_t; (focus (simp only [SL, Tr.get_put, setDst, ev, reduceCtorEq, Nat.reduceEqDiff, ↓reduceIte, hj, e0, e1, e7, e8]; first | done | exact rfl))) | (apply ws_cond_f; (focus (simp only [SL, Tr.get_put, setDst, ev, reduceCtorEq, Nat.reduceEqDiff, ↓reduceIte, hj, e0, e1, e7, e8]; first | done | exact rfl))))
    refine ws_exit ?_
    simp only [Qn, Qb, if_true]
    repeat (first | refine wr_nil ?_ | refine ws_seq ?_ | refine ws_skip ?_ | (apply wg; (focus (simp only [SL, Tr.get_put, setDst, ev, reduceCtorEq, Nat.reduceEqDiff, ↓reduceIte, dguard]; first | done | exact rfl)); (focus (simp only [dplain, SL, Tr.get_put, ev, evs, evo, dpure, b1, b2, dbinP, dbin, dbinInt, isShift, dlen, dconvP, dconv, didx, natOf, dext, dfld, dun, dload, dfadr, diadr, live, mkval, dimp, dstore, dbuild, dfill, evp, evq, dbslice, dlit, dappend, delems, sizeOK, dmake, smallInt, dslice, dsliceP, bnd, obnd, sliceHdr, dnext, dnilck, D.cells?, Value.oneCell', setDst, Int.cast_ofNat_Int, reduceCtorEq, Nat.reduceEqDiff, Int.reduceToNat, ↓reduceIte]; first | done | exact rfl))) | (apply wh; (focus (simp only [SL, Tr.get_put, setDst, ev, reduceCtorEq, Nat.reduceEqDiff, ↓reduceIte, dguard]; first | done | exact rfl))) | (apply ws_cond_t; (focus (simp only [SL, Tr.get_put, setDst, ev, reduceCtorEq, Nat.reduceEqDiff, ↓reduceIte]; first | done | exact rfl))) | (apply ws_cond_f; (focus (simp only [SL, Tr.get_put, setDst, ev, reduceCtorEq, Nat.reduceEqDiff, ↓reduceIte]; first | done | exact rfl))))
    refine ws_ret ⟨rfl, _, (by simp only [dress, dres1, SL, Tr.get_put, ev, evs, evo, dpure, b1, b2, dbinP, dbin, dbinInt, isShift, dlen, dconvP, dconv, didx, natOf, dext, dfld, dun, dload, dfadr, diadr, live, mkval, dimp, dstore, dbuild, dfill, evp, evq, dbslice, dlit, dappend, delems, sizeOK, dmake, smallInt, dslice, dsliceP, bnd, obnd, sliceHdr, dnext, dnilck, D.cells?, Value.oneCell', setDst, Int.cast_ofNat_Int, reduceCtorEq, Nat.reduceEqDiff, Int.reduceToNat, ↓reduceIte]; exact rfl), ?_, rfl, rfl⟩
    have hjs : j = xs.length := by omega
    subst hjs
    rw [List.take_length] at hall
    have : xs.idxOf? v = none := by
      rw [List.idxOf?_eq_none_iff]
      exact fun h => hall v h rfl
    simp [tupOf, idxI, this]
end Gv
