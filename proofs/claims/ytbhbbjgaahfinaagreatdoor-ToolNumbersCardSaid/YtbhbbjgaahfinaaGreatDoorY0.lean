/- Part of the proof of ToolNumbers by an evaluator that is proved sound: Y0. No condition of its own. -/
import Derived.Test.YtbhbbjgaahfinaaGreatDoorCards
import Derived.Test.YtbhbbjgaahfinaaGreatDoorTie
import Derived.WalkKit
import Derived.ProofKit
import Derived.OpenShut
import Derived.Deep.DeepHandedRow
import Derived.Test.YtbhbbjgaahfinaaGreatDoorX0
import Derived.Test.YtbhbbjgaahfinaaGreatDoorT1
import Derived.Test.YtbhbbjgaahfinaaGreatDoorW4
set_option linter.unusedVariables false
set_option linter.unusedSimpArgs false
/- ToolNumbers of the seat: for every input the call returns true, and its argument reads afterwards as before; the row's listed variables hold what they list. No further condition. -/
namespace Go.Proofs.YtbhbbjgaahfinaaGreatDoor
open Go.ChangeShapes Go.WideShapes Go.ChangeAt Go.RowKit Gv
set_option linter.unusedVariables false
set_option maxRecDepth 100000

theorem ownN : ownKnob Tryz.prog.godebug = none := by kernel_rfl

def ls0 : List Lit := litsOf (partsOf (Rows.laid_scrutiny_tool_kinds : DataW Unit))
def ls1 : List Lit := litsOf (partsOf (Rows.laid_scrutiny_tool_verdicts : DataW Unit))
def ls3 : List Lit := litsOf (partsOf (Rows.laid_internal_strconv_uint64pow10 : DataW Unit))
def ls4 : List Lit := litsOf (partsOf (Rows.laid_math_bits_deBruijn32tab : DataW Unit))
def ls5 : List Lit := litsOf (partsOf (Rows.laid_math_bits_deBruijn64tab : DataW Unit))
def ls6 : List Lit := litsOf (partsOf (Rows.laid_scrutiny_expr_keys : DataW Unit))
def ls7 : List Lit := litsOf (partsOf (Rows.laid_scrutiny_expr_texts : DataW Unit))
theorem g0 : G0 0 = some (ls0.map litD) := by kernel_rfl
theorem g1 : G0 1 = some (ls1.map litD) := by kernel_rfl
theorem g3 : G0 3 = some (ls3.map litD) := by kernel_rfl
theorem g4 : G0 4 = some (ls4.map litD) := by kernel_rfl
theorem g5 : G0 5 = some (ls5.map litD) := by kernel_rfl
theorem g6 : G0 6 = some (ls6.map litD) := by kernel_rfl
theorem g7 : G0 7 = some (ls7.map litD) := by kernel_rfl

/-- What the row's list gives. -/
theorem gok {W : World} (hL : laidMetH Tryz.prog Rows.toolNumbersRow.laid W) : GOK G0 (Cs Tryz.prog G0) (Gv.start W) := by
  have hm : laidMet Tryz.prog Rows.toolNumbersRow.laid W := hL
  have r4 : Lib.VarReads Tryz.prog W "math/bits.deBruijn32tab" (.agg (ls4.map .lit)) := Lib.laidMet.reads hm (.head _)
  have r5 : Lib.VarReads Tryz.prog W "math/bits.deBruijn64tab" (.agg (ls5.map .lit)) := Lib.laidMet.reads hm (.tail _ (.head _))
  have r3 : Lib.VarReads Tryz.prog W "internal/strconv.uint64pow10" (.agg (ls3.map .lit)) := Lib.laidMet.reads hm (.tail _ (.tail _ (.head _)))
  have r6 : Lib.VarReads Tryz.prog W "scrutiny/expr.keys" (.agg (ls6.map .lit)) := Lib.laidMet.reads hm (.tail _ (.tail _ (.tail _ (.head _))))
  have r7 : Lib.VarReads Tryz.prog W "scrutiny/expr.texts" (.agg (ls7.map .lit)) := Lib.laidMet.reads hm (.tail _ (.tail _ (.tail _ (.tail _ (.head _)))))
  have r0 : Lib.VarReads Tryz.prog W "scrutiny/tool.kinds" (.agg (ls0.map .lit)) := Lib.laidMet.reads hm (.tail _ (.tail _ (.tail _ (.tail _ (.tail _ (.head _))))))
  have r1 : Lib.VarReads Tryz.prog W "scrutiny/tool.verdicts" (.agg (ls1.map .lit)) := Lib.laidMet.reads hm (.tail _ (.tail _ (.tail _ (.tail _ (.tail _ (.tail _ (.head _)))))))
  intro g cs h
  match g, h with
  | 0, h => rw [g0] at h; cases h; exact start_gc (by kernel_rfl) (by kernel_rfl) r0
  | 1, h => rw [g1] at h; cases h; exact start_gc (by kernel_rfl) (by kernel_rfl) r1
  | 2, h => cases h
  | 3, h => rw [g3] at h; cases h; exact start_gc (by kernel_rfl) (by kernel_rfl) r3
  | 4, h => rw [g4] at h; cases h; exact start_gc (by kernel_rfl) (by kernel_rfl) r4
  | 5, h => rw [g5] at h; cases h; exact start_gc (by kernel_rfl) (by kernel_rfl) r5
  | 6, h => rw [g6] at h; cases h; exact start_gc (by kernel_rfl) (by kernel_rfl) r6
  | 7, h => rw [g7] at h; cases h; exact start_gc (by kernel_rfl) (by kernel_rfl) r7
  | n + 8, h => cases h

theorem cp_true {T : Tab} {n f : Nat} {args : List D} {own : Tr Gv.Obj} {next : Nat} (h : Gv.isTrue (dcall T (fcode T n) f args own next) = true) : Cp T f args own next (fun o _ _ => o = .ok (.v (.bool true))) := by
  rw [fcode_eq] at h
  unfold Gv.isTrue at h
  split at h
  · rename_i own next hd; exact cp_eval n hd rfl
  · cases h
theorem shown_cp (X : Option Gv.Obj) : Cp T24 7 [] (Tr.put .nil 0 X) 1 (fun o _ _ => o = .ok (.v (.bool true))) := cp_true (shown24at X)

theorem has (f : Nat) (c : FI) (h1 : T24.prim f = none) (h2 : T24.code f = some c) : Has T24 f c := ⟨h1, h2⟩
theorem numbers24 (a b nn mm : Nat) (ha : a < 2 ^ 32) (hb : b < 2 ^ 32) (hn : nn < 256) (hm : mm < 256) (lossy : Bool) :
    Cp T24 4 [.agg [.v (.int .u32 a), .v (.int .u32 b), .v (.int .u8 nn), .v (.int .u8 mm), .v (.bool lossy)]] .nil 0 (fun o _ _ => o = .ok (.v (.bool true))) :=
  numbers_cp (has 4 _ (by kernel_rfl) (by kernel_rfl)) (has 9 _ (by kernel_rfl) (by kernel_rfl)) (has 13 _ (by kernel_rfl) (by kernel_rfl)) (has 17 _ (by kernel_rfl) (by kernel_rfl)) (has 18 _ (by kernel_rfl) (by kernel_rfl))
    (has 19 _ (by kernel_rfl) (by kernel_rfl)) (has 25 _ (by kernel_rfl) (by kernel_rfl)) (has 28 _ (by kernel_rfl) (by kernel_rfl)) (has 29 _ (by kernel_rfl) (by kernel_rfl)) shown_cp a b nn mm ha hb hn hm lossy

theorem cells40 : Tryz.prog.cellsOf 40 = 5 := by kernel_rfl
theorem cells38 : Tryz.prog.cellsOf 38 = 1 := by kernel_rfl
theorem cells5 : Tryz.prog.cellsOf 5 = 1 := by kernel_rfl
theorem cells4 : Tryz.prog.cellsOf 4 = 1 := by kernel_rfl

section
variable {H : Type} {enc : TypeId × Value → H} {W : World}
theorem shut40 (base : Nat) (sp : Nat → Bool) (held : Bool) (n : Nat) (a b nn mm : Int) (l : Bool) (ha : (Lit.int .u32 a).wf = true) (hb : (Lit.int .u32 b).wf = true) (hn : (Lit.int .u8 nn).wf = true) (hm : (Lit.int .u8 mm).wf = true) :
    DataW.trod enc Tryz.prog W base sp held (n + 2) 40 [.int .u32 a, .int .u32 b, .int .u8 nn, .int .u8 mm, .bool l] = some (.agg [.lit (.int .u32 a), .lit (.int .u32 b), .lit (.int .u8 nn), .lit (.int .u8 mm), .lit (.bool l)], []) := by
  rw [trod_struct_mk (xs := [(.lit (.int .u32 a), []), (.lit (.int .u32 b), []), (.lit (.int .u8 nn), []), (.lit (.int .u8 mm), []), (.lit (.bool l), [])]) Tryz.underlying40 (by rw [cells40]; rfl) ?_]
  · rfl
  · simp [cells38, cells5, cells4, trod_int_mk n Tryz.underlying38 ha, trod_int_mk n Tryz.underlying38 hb, trod_int_mk n Tryz.underlying5 hn, trod_int_mk n Tryz.underlying5 hm]
    simp [DataW.trod, Tryz.underlying4]

theorem open40 {r : Reach} {b0 base : Nat} {sp : Nat → Bool} {held : Bool} {v : Value} {d : DataW H} {ps : List MemPlace} (hval : Value.okWide Tryz.prog W r b0 40 v) (hd : DataW.Trod enc Tryz.prog W base sp held 40 v d ps) :
    ∃ (a b nn mm : Int) (l : Bool), v = .agg #[.int .u32 a, .int .u32 b, .int .u8 nn, .int .u8 mm, .bool l] ∧ d = .agg [.lit (.int .u32 a), .lit (.int .u32 b), .lit (.int .u8 nn), .lit (.int .u8 mm), .lit (.bool l)] ∧ ps = [] ∧
      (Lit.int .u32 a).wf = true ∧ (Lit.int .u32 b).wf = true ∧ (Lit.int .u8 nn).wf = true ∧ (Lit.int .u8 mm).wf = true := by
  unfold Value.okWide at hval
  rw [Tryz.underlying40] at hval
  obtain ⟨⟨cs⟩, rfl, hsz, _⟩ := hval
  rw [cells40] at hsz
  match cs, hsz with
  | [c0, c1, c2, c3, c4], _ =>
    obtain ⟨fuel, hf⟩ := hd
    obtain ⟨xs, n, rfl, hx, hl, hxl, hall⟩ := DataW.trod_struct Tryz.underlying40 hf
    match xs, hxl with
    | [x0, x1, x2, x3, x4], _ =>
      have f0 := hall 0 _ rfl
      change DataW.trod enc Tryz.prog W base sp held n 38 (List.take (Tryz.prog.cellsOf 38) (List.drop 0 [c0, c1, c2, c3, c4])) = some x0 at f0
      rw [cells38] at f0
      have f1 := hall 1 _ rfl
      change DataW.trod enc Tryz.prog W base sp held n 38 (List.take (Tryz.prog.cellsOf 38) (List.drop 1 [c0, c1, c2, c3, c4])) = some x1 at f1
      rw [cells38] at f1
      have f2 := hall 2 _ rfl
      change DataW.trod enc Tryz.prog W base sp held n 5 (List.take (Tryz.prog.cellsOf 5) (List.drop 2 [c0, c1, c2, c3, c4])) = some x2 at f2
      rw [cells5] at f2
      have f3 := hall 3 _ rfl
      change DataW.trod enc Tryz.prog W base sp held n 5 (List.take (Tryz.prog.cellsOf 5) (List.drop 3 [c0, c1, c2, c3, c4])) = some x3 at f3
      rw [cells5] at f3
      have f4 := hall 4 _ rfl
      change DataW.trod enc Tryz.prog W base sp held n 4 (List.take (Tryz.prog.cellsOf 4) (List.drop 4 [c0, c1, c2, c3, c4])) = some x4 at f4
      rw [cells4] at f4
      obtain ⟨a, e0, rfl, w0⟩ := DataW.trod_int Tryz.underlying38 f0
      obtain ⟨b, e1, rfl, w1⟩ := DataW.trod_int Tryz.underlying38 f1
      obtain ⟨nn, e2, rfl, w2⟩ := DataW.trod_int Tryz.underlying5 f2
      obtain ⟨mm, e3, rfl, w3⟩ := DataW.trod_int Tryz.underlying5 f3
      obtain ⟨l, e4, rfl⟩ := DataW.trod_bool Tryz.underlying4 f4
      simp only [List.drop_zero, List.drop_succ_cons, List.take_succ_cons, List.take_zero, List.cons.injEq, and_true] at e0 e1 e2 e3 e4
      subst e0; subst e1; subst e2; subst e3; subst e4
      simp only [List.map_cons, List.map_nil, List.flatMap_cons, List.flatMap_nil, List.append_nil, Prod.mk.injEq] at hx
      exact ⟨a, b, nn, mm, l, rfl, hx.1, hx.2, w0, w1, w2, w3⟩
end
end Go.Proofs.YtbhbbjgaahfinaaGreatDoor
