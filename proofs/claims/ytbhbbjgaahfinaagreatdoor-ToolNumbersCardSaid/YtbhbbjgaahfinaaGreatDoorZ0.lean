/- The card of ToolNumbers: for every input the call returns true, and its argument reads afterwards as it read before; the listed package-level variables start as the text lays them. No further condition. -/
import Derived.Test.YtbhbbjgaahfinaaGreatDoorY0
import Derived.Test.YtbhbbjgaahfinaaGreatDoorQ0
set_option linter.unusedVariables false
set_option linter.unusedSimpArgs false
namespace Go.Proofs.YtbhbbjgaahfinaaGreatDoor
open Go.ChangeShapes Go.WideShapes Go.ChangeAt Go.RowKit Gv
set_option linter.unusedVariables false
set_option maxRecDepth 100000

theorem contractN (H : Type) (enc : TypeId × Value → H) (W : World) (base : Nat) (args : Array Value) (ds gs : List (DataW H)) (before : List MemPlace)
    (hval : ∀ (j : Nat) t v, Tryz.f4.params[j]? = some t → args[j]? = some v → Value.okWide Tryz.prog W .any base t v)
    (hW : DataW.Whole enc Tryz.prog Tryz.f4.params.toList Rows.toolNumbersSpec.vars false W args.toList ds gs before) (hL : laidMetH Tryz.prog Rows.toolNumbersRow.laid W) :
    Calls Tryz.prog 4 args W fun e W' => ∃ v, e = .returned v ∧ Rows.toolNumbersSpec.post enc Tryz.prog Tryz.f4 false true false false W args v W' := by
  have hW' := hW
  obtain ⟨p, q, hA0, hV, rfl, hfz, hnd⟩ := hW
  have hA : DataW.TrodAll enc Tryz.prog W 0 (fun _ => true) true Tryz.f4.params.toList args.toList ds p := hA0
  rw [Tryz.params4] at hA hval
  obtain ⟨v0, vs0, d0, ds0, p0, q0, hargs, rfl, rfl, h0, r0⟩ := trodAll_cons hA
  obtain ⟨rfl, rfl, rfl⟩ := trodAll_nil r0
  obtain rfl : args = #[v0] := by cases args; simp_all
  obtain ⟨rfl, rfl⟩ := trodVars_none hV
  obtain ⟨a, b, nn, mm, l, rfl, rfl, rfl, wa, wb, wn, wm⟩ := open40 (hval 0 40 v0 rfl rfl) h0
  clear hA0
  simp only [List.append_nil] at hW'
  have ba := bounds_u32 wa
  have bb := bounds_u32 wb
  have bn := bounds_u8 wn
  have bm := bounds_u8 wm
  obtain ⟨a', rfl⟩ : ∃ k : Nat, a = k := ⟨a.toNat, by omega⟩
  obtain ⟨b', rfl⟩ : ∃ k : Nat, b = k := ⟨b.toNat, by omega⟩
  obtain ⟨n', rfl⟩ : ∃ k : Nat, nn = k := ⟨nn.toNat, by omega⟩
  obtain ⟨m', rfl⟩ : ∃ k : Nat, mm = k := ⟨mm.toNat, by omega⟩
  have walk := calls_of_eval tab_sound (gok hL) (f := 4) (us := #[Value.agg #[.int .u32 a', .int .u32 b', .int .u8 n', .int .u8 m', .bool l]]) (by kernel_rfl) (numbers24 a' b' n' m' (by omega) (by omega) (by omega) (by omega) l)
    (by
      simp only [RL, R]
      exact ⟨_, [], rfl, fun h => (by cases h), ⟨_, rfl, _, _, rfl, fun _ => rfl, rfl, _, _, rfl, fun _ => rfl, rfl, _, _, rfl, fun _ => rfl, rfl, _, _, rfl, fun _ => rfl, rfl, _, _, rfl, fun _ => rfl, rfl, rfl⟩, rfl⟩)
  refine walk.mono fun e W' ⟨he, hk⟩ => ?_
  subst he
  exact ⟨_, rfl, post_plain hW' (fun _ _ _ => trodAll_cons_mk (shut_bool Tryz.underlying4 _) trodAll_mk0) (fun sp => trodAll_cons_mk (show DataW.Trod enc Tryz.prog W' 0 sp true 40 (.agg #[.int .u32 a', .int .u32 b', .int .u8 n', .int .u8 m', .bool l]) _ [] from ⟨2, shut40 0 sp true 0 a' b' n' m' l wa wb wn wm⟩) trodAll_mk0) (fun _ => rfl) hk
    (ok_one (by kernel_rfl) rfl (okWide_bool_mk Tryz.underlying4 _))⟩

/-- A world for the witness. -/
noncomputable def layAt (h : Array Obj) (g : Nat) (ls : List Lit) : Array Obj := h.modify g fun
  | .cells _ t fz => .cells (ls.map Lit.value).toArray t fz
  | o => o
noncomputable def laidWorld (os : Os) : World :=
  { World.holding Tryz.prog os ⟨#[], #[], []⟩ with heap := layAt (layAt (layAt (layAt (layAt (layAt (layAt (World.holding Tryz.prog os ⟨#[], #[], []⟩).heap 0 ls0) 1 ls1) 3 ls3) 4 ls4) 5 ls5) 6 ls6) 7 ls7 }
def arg0 : Value := .agg #[.int .u32 0, .int .u32 0, .int .u8 0, .int .u8 0, .bool false]
theorem laid_met (os : Os) : laidMet Tryz.prog Rows.toolNumbersRow.laid ((laidWorld os).forCall (fun _ _ => 0) ⟨#[], #[arg0], []⟩).memory :=
  laidMet_of_run' 8 (by kernel_rfl) (by kernel_rfl)
theorem reads (os : Os) {H : Type} (enc : TypeId × Value → H) : ∃ ds places, DataW.whole enc Tryz.prog ((laidWorld os).forCall (fun _ _ => 0) ⟨#[], #[arg0], []⟩).memory Tryz.f4.params.toList Rows.toolNumbersSpec.vars false #[arg0].toList 8 = some (ds, [], places) :=
  ⟨[.agg [.lit (.int .u32 0), .lit (.int .u32 0), .lit (.int .u8 0), .lit (.int .u8 0), .lit (.bool false)]], [], by kernel_rfl⟩

theorem liftedN (os : Os) (started : os.Started) (H : Type) (enc : TypeId × Value → H) (F : Stop.Interp) :
    ReturnsInHanded {} Tryz.checked os 4 .any ((OpenSpec.ofChange Rows.toolNumbersSpec).preRow enc Tryz.prog Tryz.f4 Rows.toolNumbersRow.domain false Rows.toolNumbersRow.laid) (((OpenSpec.ofChange Rows.toolNumbersSpec).at F).post enc Tryz.prog Tryz.f4 false true false false) := by
  obtain ⟨ds, places, hx⟩ := reads os enc
  refine returnsInHanded_of_row (C := Tryz.checked) (s := OpenSpec.ofChange Rows.toolNumbersSpec) ownN started (by kernel_rfl) Tryz.func4
    (witness_row_at (enc := enc) (C := Tryz.checked) false (laidWorld os) #[arg0] rfl (by kernel_rfl) (by kernel_rfl) (by kernel_rfl)
      (OpenSpec.preRow_of_cond 8 hx (by kernel_rfl) (fun k hk => by cases hk) (by kernel_rfl) (laid_met os))) ?_
  intro W base args ds gs before hval hW _ _ _ hL _ _
  exact contractN H enc W base args ds gs before hval hW hL

theorem saidN : Rows.ToolNumbersSaid :=
  OpenClaim.holds_of_cond 4 Tryz.f4 rfl rfl rfl rfl rfl rfl rfl ⟨rfl, rfl, rfl, rfl, rfl⟩ rfl rfl rfl rfl rfl (by kernel_rfl) Tryz.func4 closedN
    (of_decide_eq_true (by kernel_rfl)) (by unfold Func.isWrapper; first | (rw [if_pos (by decide +kernel)]; kernel_rfl) | (rw [if_neg (by decide +kernel)]; exact ⟨rfl, rfl⟩))
    (fun os started H enc _ F => by rw [OpenClaim.pre_eq_preRow]; exact liftedN os started H enc F)

theorem plainN (f : FuncId) (fn : Func) (hf : Tryz.pinned.checked.prog.funcNamed "scrutiny/scrutinylaw24.ToolNumbers" = some f) (hfn : Tryz.pinned.checked.prog.funcs[f]? = some fn) :
    true = Tryz.pinned.checked.prog.looks [] ∧ ∀ (j : Nat) t, fn.params[j]? = some t → Tryz.pinned.checked.prog.wantsStandIn t = false := by
  obtain rfl : f = 4 := Option.some.inj ((show Tryz.prog.funcNamed "scrutiny/scrutinylaw24.ToolNumbers" = some 4 by kernel_rfl).symm.trans hf) |>.symm
  obtain rfl : fn = Tryz.f4 := (Option.some.inj (Tryz.func4.symm.trans hfn)).symm
  refine ⟨by kernel_rfl, fun j t ht => ?_⟩
  rw [Tryz.params4] at ht
  obtain rfl : t = 40 := by simpa using Array.mem_of_getElem? ht
  exact (show Tryz.prog.wantsStandIn 40 = false by kernel_rfl)

/-- The card. -/
theorem toolNumbers_card : Rows.ToolNumbersCardSaid :=
  Claim7.holds_tied_plain_at .later [] _ _ _ _ saidN (fun _ h => by cases h) (by kernel_rfl) (fun _ h => by cases h) toolNumbers_row_tie rfl ⟨rfl, rfl⟩ (by kernel_rfl) rfl plainN (by kernel_rfl)
end Go.Proofs.YtbhbbjgaahfinaaGreatDoor
