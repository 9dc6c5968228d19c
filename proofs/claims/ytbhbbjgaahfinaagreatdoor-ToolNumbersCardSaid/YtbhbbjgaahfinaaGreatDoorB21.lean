/- Part of the proof of ToolNumbers by an evaluator that is proved sound: B21. No condition of its own. -/
import Derived.Test.YtbhbbjgaahfinaaGreatDoorB20
set_option linter.unusedVariables false
set_option linter.unusedSimpArgs false
/-! Regions that draw their order: all orders. -/
namespace Gv
open Go
set_option linter.unusedVariables false

theorem countP_withI (L : Nat → Bool) (i : Nat) (hu : L i = false) : ∀ (l : List Nat), l.Nodup → (i ∈ l → l.countP (fun j => !withI L i j) + 1 = l.countP (fun j => !L j)) ∧ (i ∉ l → l.countP (fun j => !withI L i j) = l.countP (fun j => !L j))
  | [], _ => ⟨fun h => by simp at h, fun _ => rfl⟩
  | x :: l, hn => by
    obtain ⟨hx, hn⟩ := List.nodup_cons.1 hn
    obtain ⟨h1, h2⟩ := countP_withI L i hu l hn
    refine ⟨fun hm => ?_, fun hm => ?_⟩
    · by_cases hxi : x = i
      · subst hxi
        have := h2 hx
        simp only [List.countP_cons, withI_self, hu, this]
        simp
      · have hm' : i ∈ l := by
          rcases List.mem_cons.1 hm with h | h
          · exact absurd h.symm hxi
          · exact h
        have := h1 hm'
        simp only [List.countP_cons, withI_ne hxi]
        omega
    · have hxi : x ≠ i := fun e => hm (by rw [e]; exact List.mem_cons_self ..)
      have := h2 (fun h => hm (List.mem_cons_of_mem _ h))
      simp only [List.countP_cons, withI_ne hxi, this]

section
variable {P : Program} {G : Glob} {T : Tab} {self : IC → St → Option (DX × St)} {nt : Nat} {ops : Array Oper} {C : Cx} {h0 : HS} {E0 : Tr D} {dfs : List Dfr} {p : PlanD} {fin : Tr D × Tr Obj × Nat}

theorem rdy_of (pl : Plan P G T self nt ops p fin) {listed : Array Bool} (hsz : listed.size = ops.size) {x : SX} {hid : Option Nat} {a : Act} {h : HS} (inv : DInv P G nt ops C h0 E0 dfs p (lst listed) x hid a h) {i : Nat}
    (hr : i ∈ Region.ready .any ops listed) : ∃ o, ops[i]? = some o ∧ Rdy ops p (lst listed) i := by
  obtain ⟨h1, o, ho, h2⟩ := mem_ready.1 hr
  have hi : i < ops.size := (Array.getElem?_eq_some_iff.1 ho).1
  have hun : lst listed i = false := by
    have hi' : i < listed.size := by omega
    simp [lst, hi'] at h1 ⊢; exact h1
  refine ⟨o, ho, hun, ?_, ?_⟩
  · intro j hb
    obtain ⟨e, he, hbi, hh⟩ := pl.bef i o ho j hb
    have hl := h2 e he hbi
    rcases hh with rfl | hh
    · exact hl
    · have hlt : e.on < ops.size := by
        rcases Nat.lt_or_ge e.on ops.size with h | h
        · exact h
        · simp [Array.getD, show ¬ e.on < listed.size by omega] at hl
      exact inv.down e.on j hlt hl hh
  · intro j hj hL hb
    have := inv.down j i hj hL hb
    rw [hun] at this; cases this

/-- All are listed, if nothing may come up. -/
theorem all_listed (pl : Plan P G T self nt ops p fin) {listed : Array Bool} (hsz : listed.size = ops.size) (hr : Region.ready .any ops listed = []) : ∀ i, i < ops.size → lst listed i = true := by
  intro i
  induction i using Nat.strongRecOn with
  | _ i ih =>
    intro hi
    cases hL : lst listed i with
    | true => rfl
    | false =>
      exfalso
      have : i ∈ Region.ready .any ops listed := by
        refine mem_ready.2 ⟨?_, ops[i], by simp [hi], ?_⟩
        · have hi' : i < listed.size := by omega
          simp [lst, hi'] at hL ⊢; exact hL
        · intro e he hb
          have hbf := pl.edge i ops[i] (by simp [hi]) e he hb
          have hlt := pl.back i e.on hi hbf
          exact ih e.on hlt (by omega)
      rw [hr] at this; cases this

theorem draw_end (pl : Plan P G T self nt ops p fin) (hE0 : p.E 0 = E0) {L : Nat → Bool} {x : SX} {hid : Option Nat} {a : Act} {h : HS} (inv : DInv P G nt ops C h0 E0 dfs p L x hid a h) (hall : ∀ i, i < ops.size → L i = true) :
    FR C h0 nt ⟨fin.1, fin.2.1, fin.2.2, dfs⟩ a h := by
  have hS := pl.mtn L x hall inv.m
  cases hid with
  | some vb =>
    obtain ⟨v, hv, _, hj, _⟩ := inv.hidden
    obtain ⟨_, v2, _⟩ := pl.vi v hv
    rw [hall _ v2] at hj; cases hj
  | none =>
    refine ⟨by rw [inv.own, hS], by rw [inv.next, hS], inv.ok, inv.ext, inv.size, ?_, inv.dfs⟩
    intro t d hd
    simp only at hd
    rw [← pl.last] at hd
    rcases pl.envLaw ops.size (Nat.le_refl _) t d hd with ⟨j, hj, h2, rfl⟩ | ⟨h1, h2⟩
    · exact inv.e1 j t hj (hall j hj) h2
    · refine inv.e2 t ?_ d (by rw [← hE0]; exact h2)
      intro j oj hoj _ hdst
      have hj : j < ops.size := (Array.getElem?_eq_some_iff.1 hoj).1
      rcases edst_of pl hoj hdst with he | ⟨v, hv, rfl, rfl⟩
      · exact h1 j hj he
      · obtain ⟨_, v2, _, v4, _⟩ := pl.vi v hv
        exact h1 v.jf v2 (by rw [v4]; rfl)

theorem draw_any (pl : Plan P G T self nt ops p fin) (hcall : CallOK P G T self) (hround : RoundOK P G self) (hmeth : MethOK P T) (cc : CC P G C) {r : Option Nat} {m : Nat} {Q : Exit → Act → World → Prop} (hE0 : p.E 0 = E0)
    (hk : ∀ a' h', FR C h0 nt ⟨fin.1, fin.2.1, fin.2.2, dfs⟩ a' h' → Q .normal a' h'.w) :
    ∀ (fuel : Nat) (listed : Array Bool) (x : SX) (hid : Option Nat) (a : Act) (h : HS), listed.size = ops.size → DInv P G nt ops C h0 E0 dfs p (lst listed) x hid a h → (List.range ops.size).countP (fun j => !lst listed j) ≤ fuel → wpAnyIn (Fw r) m P .any ops Q fuel listed a h.w := by
  intro fuel
  induction fuel with
  | zero =>
    intro listed x hid a h hsz inv hc
    have hall : ∀ i, i < ops.size → lst listed i = true := by
      intro i hi
      cases hL : lst listed i with
      | true => rfl
      | false =>
        have : 0 < (List.range ops.size).countP (fun j => !lst listed j) := List.countP_pos_iff.2 ⟨i, by simpa using hi, by simp [hL]⟩
        omega
    refine ⟨?_, hk a h (draw_end pl hE0 inv hall)⟩
    cases hr : Region.ready .any ops listed with
    | nil => rfl
    | cons i rest =>
      obtain ⟨o, ho, rd⟩ := rdy_of pl hsz inv (i := i) (by rw [hr]; exact List.mem_cons_self ..)
      have := hall i (Array.getElem?_eq_some_iff.1 ho).1
      rw [rd.un] at this; cases this
  | succ fuel ih =>
    intro listed x hid a h hsz inv hc
    refine ⟨fun hr => hk a h (draw_end pl hE0 inv (all_listed pl hsz hr)), ?_⟩
    intro i hi
    obtain ⟨o, ho, rd⟩ := rdy_of pl hsz inv hi
    have hlt : i < ops.size := (Array.getElem?_eq_some_iff.1 ho).1
    refine draw_op pl hcall hround hmeth cc inv hE0 ho rd ?_
    intro y hid' a' h' inv'
    rw [← lst_set (by omega)] at inv'
    refine ih _ y hid' a' h' (by simpa using hsz) inv' ?_
    have := (countP_withI (lst listed) i rd.un (List.range ops.size) List.nodup_range).1 (by simpa using hlt)
    rw [lst_set (by omega)]
    omega

/-- A region that draws its order, by a plan. -/
theorem draw_plan (pl : Plan P G T self nt ops p fin) (hcall : CallOK P G T self) (hround : RoundOK P G self) (hmeth : MethOK P T) (cc : CC P G C) (hmix : P.follows .mixedOrders = true) {r : Option Nat} {m : Nat} {Q : Exit → Act → World → Prop} {a : Act} {h : HS} {own : Tr Obj} {next : Nat} {id : Nat}
    (hgk : GOK G C h0) (fr : FR C h0 nt ⟨p.E 0, own, next, dfs⟩ a h) (hS0 : p.S (0, false) = (own, next)) (hvi : ∀ v, p.vi = some v → True)
    (hk : ∀ a' h', FR C h0 nt ⟨fin.1, fin.2.1, fin.2.2, dfs⟩ a' h' → Q .normal a' h'.w) : (Code.region id ops true).wpIn (Fw r) m P Q a h.w := by
  refine wpIn_region_any hmix ?_
  let h' : HS := { h with w := { h.w with drawn := h.w.drawn + 1 } }
  have gr : Grow C h C h' := ⟨fun b s => ⟨⟨s.1, s.2.1, s.2.2⟩, rfl⟩, Nat.le_refl _, fun _ _ => rfl, fun id o' _ ho => ⟨o', ho, o'.sim_refl⟩, fun b c e f hb => ⟨c, f, hb, rfl⟩⟩
  have e : Ext h0 h' := ⟨fr.ext.size, fr.ext.os, fr.ext.tape, fr.ext.output, fr.ext.old, fr.ext.next, fr.ext.M, fr.ext.live, fr.ext.newb, fr.ext.cells⟩
  have ok : OK C h' := ⟨fun i o ho => by
    obtain ⟨h1, h2, h3, h4⟩ := fr.ok.id i o ho
    exact ⟨h1, h2, h3, OR.mono gr rfl rfl rfl h4⟩, fr.ok.inj, fr.ok.X, fr.ok.dvd⟩
  have hl : lst (Array.replicate ops.size false) = fun _ => false := by
    funext i
    simp only [lst, Array.getD_eq_getD_getElem?, Array.getElem?_replicate]
    split <;> rfl
  have inv : DInv P G nt ops C h0 (p.E 0) dfs p (lst (Array.replicate ops.size false)) (0, false) none a h' := by
    rw [hl]
    refine ⟨pl.mt0, fun _ _ _ hh => (by cases hh), by rw [hS0]; exact fr.own, by rw [hS0]; exact fr.next, ok, (hgk.ext fr.ext).mono gr, e, fr.size, fun _ _ _ hh => (by cases hh), ?_, fr.dfs.mono gr, fun _ _ => rfl⟩
    intro t _ d hd
    obtain ⟨u, h1, h2⟩ := fr.env t d hd
    exact ⟨u, h1, h2.mono gr⟩
  exact draw_any pl hcall hround hmeth cc rfl hk ops.size _ (0, false) none a h' (by simp) inv (by
    have := List.countP_le_length (p := fun j => !lst (Array.replicate ops.size false) j) (l := List.range ops.size)
    simpa using this)
end
end Gv
