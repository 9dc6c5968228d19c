/- Part of the proof of ToolNumbers by an evaluator that is proved sound: B7. No condition of its own. -/
import Derived.Test.YtbhbbjgaahfinaaGreatDoorB6
set_option linter.unusedVariables false
set_option linter.unusedSimpArgs false
/-! An operation that leaves the state as it is: all of them. -/
namespace Gv
open Go
set_option linter.unusedVariables false

section
variable {C : Cx} {h : HS} {P : Program} {G : Glob} {E : Tr D} {a : Act}

theorem cdesc_sound {t : TypeId} {d : TypeDesc} (hd : cdesc P t = some d) : P.underlying t = some d ∧ ∀ ms, d ≠ .interface ms := by
  unfold cdesc at hd
  split at hd
  · cases hd
  · rename_i hne
    exact ⟨hd, fun ms hm => hne ms (by rw [hd, hm])⟩

theorem ckey_sound {t : TypeId} {k : BK} (hk : ckey P t = some k) : KeyOK P t k := by
  unfold ckey at hk
  split at hk
  · rename_i hu
    simp only [Option.some.injEq] at hk; subst hk; exact .int hu
  · rename_i hu
    simp only [Option.some.injEq] at hk; subst hk; exact .str hu
  · rename_i fs hu
    split at hk
    · cases hk
    · rename_i hs
      simp only [Option.map_eq_some_iff] at hk
      obtain ⟨ks, hk, rfl⟩ := hk
      have : P.fieldsOf t = fs := by simp [Program.fieldsOf, hu]
      exact .deep (by rw [this]; exact hu) (by simpa using hs) hk
  · cases hk

theorem dpure_sound (ok : OK C h) {o : Oper} {i : IOp} (hc : cop P G o = some i) (ho : ∀ x ∈ o.op.operands.toList, OpdOK C h G E a x) {d : D} (hd : dpure h.own E i = some d) :
    YN C P h (execOp a.eval o) d h.own h.next := by
  obtain ⟨dst, op, ty, pos, after, guard⟩ := o
  cases op with
  | move x =>
    simp only [cop, Option.map_eq_some_iff] at hc
    obtain ⟨x', hx, rfl⟩ := hc
    exact .of_val ok (ho x (by simp [Op.operands]) _ hx _ hd)
  | assign x =>
    simp only [cop, Option.map_eq_some_iff] at hc
    obtain ⟨x', hx, rfl⟩ := hc
    exact .of_val ok (ho x (by simp [Op.operands]) _ hx _ hd)
  | pick c x y =>
    obtain ⟨c', h1, hc⟩ := some1 hc
    obtain ⟨x', h2, hc⟩ := some1 hc
    obtain ⟨y', h3, hc⟩ := some1 hc
    simp only [Option.some.injEq] at hc
    subst hc
    simp only [dpure] at hd
    have oc := ho c (by simp [Op.operands]) _ h1
    split at hd
    · rename_i he
      have := oc _ he
      simp only [R] at this
      refine ⟨a.eval x, h, .inl ?_, ho x (by simp [Op.operands]) _ h2 _ hd, rfl, rfl, Ext.refl h, ok⟩
      simp [execOp, this, asBool]
    · rename_i he
      have := oc _ he
      simp only [R] at this
      refine ⟨a.eval y, h, .inl ?_, ho y (by simp [Op.operands]) _ h3 _ hd, rfl, rfl, Ext.refl h, ok⟩
      simp [execOp, this, asBool]
    · cases hd
  | build t ps =>
    have hps : ∀ p ∈ ps.toList, OpdOK C h G E a p.2 := fun p hp => ho p.2 (by simp only [Op.operands]; simp; exact ⟨_, Array.mem_toList_iff.1 hp⟩)
    simp only [cop] at hc
    split at hc
    · rename_i z zv hz
      obtain ⟨hz1, hz2⟩ := tzero_sound hz
      have hz3 := hz2 C h
      simp only [R] at hz3
      obtain ⟨cs, rfl, hz4⟩ := hz3
      have hmap : (ps.map fun p => (p.1, a.eval p.2)).toList = ps.toList.map fun p => (p.1, a.eval p.2) := by simp
      split at hc
      · rename_i fs hu
        split at hc
        · rename_i hfs
          simp only [Option.map_eq_some_iff] at hc
          obtain ⟨ys, hys, rfl⟩ := hc
          obtain ⟨qs, hq, hd⟩ := some1 hd
          obtain ⟨places, hp1, hp2⟩ := mapM_places hfs
          exact .of_pure1 ok (build_struct hu hz1 rfl hz4 hp1 (by rw [hmap]; exact parts_sound hp2 hys hq hps) hd)
        · cases hc
      · rename_i n e hu
        obtain ⟨size, hsz, hc⟩ := some1 hc
        simp only [Option.map_eq_some_iff] at hc
        obtain ⟨ys, hys, rfl⟩ := hc
        obtain ⟨qs, hq, hd⟩ := some1 hd
        exact .of_pure1 ok (build_array hu hz1 rfl hz4 (tsize_sound hsz) (by rw [hmap]; exact partsA_sound hys hq hps) hd)
      · cases hc
    · cases hc
  | buildSlice t n ps =>
    have hps : ∀ p ∈ ps.toList, OpdOK C h G E a p.2 := fun p hp => ho p.2 (by simp only [Op.operands]; simp; exact ⟨_, Array.mem_toList_iff.1 hp⟩)
    simp only [cop] at hc
    split at hc
    · rename_i e hs
      split at hc
      · rename_i size bytes z qs ht hp
        simp only [Option.some.injEq] at hc; subst hc
        obtain ⟨qd, hq, hd⟩ := some1 hd
        have hmap : (ps.map fun p => (p.1, a.eval p.2)).toList = ps.toList.map fun p => (p.1, a.eval p.2) := by simp
        exact .of_yields (bslice_sound ok (sliceOf_sound hs) (telem_sound ht) (by rw [hmap]; exact partsS_sound hp hq hps) hd)
      · cases hc
    · cases hc
  | load t x =>
    simp only [cop] at hc
    obtain ⟨n, x', hn, hx, hc⟩ := some2 hc
    simp only [Option.some.injEq] at hc; subst hc
    obtain ⟨dx, he, hd⟩ := some1 hd
    obtain ⟨t1, t2⟩ := tagg_sound hn
    obtain ⟨v, g1, g2⟩ := load_sound ok t1 t2 (ho x (by simp [Op.operands]) _ hx _ he) hd
    exact .of_yields (Yields.same ok g1 g2)
  | nilCheck x =>
    simp only [cop, Option.map_eq_some_iff] at hc
    obtain ⟨x', hx, rfl⟩ := hc
    obtain ⟨dx, he, hd⟩ := some1 hd
    have hr := ho x (by simp [Op.operands]) _ hx _ he
    obtain ⟨rfl, hk⟩ := dnilck_sound ok hr hd
    refine ⟨a.eval x, h, .inl ?_, hr, rfl, rfl, Ext.refl h, ok⟩
    rcases hk with ⟨ad, hk⟩ | ⟨f, fs, cs, hk⟩ <;> simp [execOp, hk]
  | binOp op t x y yt =>
    obtain ⟨k, h0, hc⟩ := some1 hc
    obtain ⟨x', h1, hc⟩ := some1 hc
    obtain ⟨y', h2, hc⟩ := some1 hc
    simp only [Option.some.injEq] at hc
    subst hc
    exact .of_pure1 ok (bin_case ok h0 h1 h2 (ho x (by simp [Op.operands])) (ho y (by simp [Op.operands])) hd)
  | unOp op t x =>
    simp only [cop, Option.map_eq_some_iff] at hc
    obtain ⟨x', hx, rfl⟩ := hc
    obtain ⟨dx, he, hd⟩ := some1 hd
    exact .of_pure1 ok (dun_sound (ho x (by simp [Op.operands]) _ hx _ he) hd)
  | convert s t x =>
    simp only [cop] at hc
    obtain ⟨k, x', hk, hx, hc⟩ := some2 hc
    simp only [Option.some.injEq] at hc; subst hc
    obtain ⟨dx, he, hd⟩ := some1 hd
    exact .of_pure1 ok (conv_case ok hk (ho x (by simp [Op.operands]) _ hx _ he) hd)
  | makeFunc fn first capt =>
    obtain ⟨f, c, h1, h2, hc⟩ := some2 hc
    simp only [Option.some.injEq] at hc; subst hc
    obtain ⟨xs, ys, h3, h4, hd⟩ := some2 hd
    simp only [Option.some.injEq] at hd; subst hd
    have r1 := opds_sound (C := C) (h := h) (a := a) h1 h3 (fun x hx => ho x (by simp [Op.operands]; exact .inl (by simpa using hx)))
    have r2 := opds_sound (C := C) (h := h) (a := a) h2 h4 (fun x hx => ho x (by simp [Op.operands]; exact .inr (by simpa using hx)))
    refine .of_pure1 ok ⟨.func fn (first.map a.eval) (capt.map a.eval), by simp [Instr.makeFunc], ?_⟩
    simp only [R]
    exact ⟨_, _, rfl, by simpa using r1, by simpa using r2⟩
  | slice t x lo hi mx =>
    simp only [cop] at hc
    split at hc
    · cases hc
    · rename_i hg
      have hgiven0 : mx.isSome = true → hi.isSome = true := by
        intro hm
        cases hh : hi.isSome with
        | true => rfl
        | false => exact absurd ⟨hm, hh⟩ hg
      have ox := ho x (by simp [Op.operands])
      have olo : ∀ z, lo = some z → OpdOK C h G E a z := fun z hz => ho z (by subst hz; simp [Op.operands])
      have ohi : ∀ z, hi = some z → OpdOK C h G E a z := fun z hz => ho z (by subst hz; simp [Op.operands])
      have omx : ∀ z, mx = some z → OpdOK C h G E a z := fun z hz => ho z (by subst hz; simp [Op.operands])
      have main : ∀ {k : SK} {x' : Opd} {lo' hi' mx' : Option Opd}, SKOK P t k → copd G x = some x' → copdo G lo = some lo' → copdo G hi = some hi' → copdo G mx = some mx' →
          dpure h.own E (.slice k x' lo' hi' mx') = some d → Yields C P h (Instr.sliceAt t (a.eval x) (lo.map a.eval) (hi.map a.eval) (mx.map a.eval)) d h.own h.next := by
        intro k x' lo' hi' mx' hk hx h1 h2 h3 hd
        obtain ⟨dx, dlo, e0, e1, hd⟩ := some2 hd
        obtain ⟨dhi, dmx, e2, e3, hd⟩ := some2 hd
        · have r1 := opdo_sound (C := C) (h := h) h1 e1 olo
          have r2 := opdo_sound (C := C) (h := h) h2 e2 ohi
          have r3 := opdo_sound (C := C) (h := h) h3 e3 omx
          refine slice_case ok hk (ox _ hx _ e0) r1 r2 r3 ?_ hd
          intro hm
          have : mx.isSome = true := by
            cases mx with
            | none => simp only [Option.map_none] at r3; cases dmx <;> simp_all [RO]
            | some _ => rfl
          have := hgiven0 this
          cases dhi with
          | none => cases hi <;> simp_all [RO]
          | some _ => rfl
      split at hc
      · rename_i x' lo' hi' mx' h0 h1 h2 h3 h4
        simp only [Option.some.injEq] at hc; subst hc
        exact .of_yields (main (k := .str) h0 h1 h2 h3 h4 hd)
      · rename_i e x' lo' hi' mx' h0 h1 h2 h3 h4
        simp only [Option.map_eq_some_iff] at hc
        obtain ⟨n, hn, rfl⟩ := hc
        exact .of_yields (main (k := .sl n) ⟨e, h0, tsize_sound hn⟩ h1 h2 h3 h4 hd)
      · rename_i n e x' lo' hi' mx' h0 h1 h2 h3 h4
        simp only [Option.map_eq_some_iff] at hc
        obtain ⟨s, hn, rfl⟩ := hc
        exact .of_yields (main (k := .arr n s) ⟨e, h0, tsize_sound hn⟩ h1 h2 h3 h4 hd)
      · cases hc
  | fieldAddr s x fi =>
    simp only [cop] at hc
    split at hc
    · rename_i fs x' hu hx
      split at hc
      · rename_i f hf
        split at hc
        · rename_i n hn
          simp only [Option.some.injEq] at hc; subst hc
          obtain ⟨dx, he, hd⟩ := some1 hd
          exact .of_yields (dfadr_sound ok hu hf (tsize_sound hn) (ho x (by simp [Op.operands]) _ hx _ he) hd)
        · cases hc
      · cases hc
    · cases hc
  | field t x fi =>
    simp only [cop] at hc
    split at hc
    · rename_i fs x' hu hx
      split at hc
      · rename_i f hf
        simp only [Option.map_eq_some_iff] at hc
        obtain ⟨n, hn, rfl⟩ := hc
        obtain ⟨dx, he, hd⟩ := some1 hd
        obtain ⟨t1, t2⟩ := tagg_sound hn
        exact .of_pure1 ok (dfld_sound hu hf t1 t2 (ho x (by simp [Op.operands]) _ hx _ he) hd)
      · cases hc
    · cases hc
  | indexAddr t x y =>
    simp only [cop] at hc
    split at hc
    · rename_i e x' y' hu hx hy
      simp only [Option.map_eq_some_iff] at hc
      obtain ⟨n, hn, rfl⟩ := hc
      obtain ⟨dx, dy, h1, h2, hd⟩ := some2 hd
      exact .of_yields (diadr_sound ok (ho x (by simp [Op.operands]) _ hx _ h1) (ho y (by simp [Op.operands]) _ hy _ h2) hd ⟨e, hu, tsize_sound hn⟩)
    · rename_i n e x' y' hu hx hy
      simp only [Option.map_eq_some_iff] at hc
      obtain ⟨s, hn, rfl⟩ := hc
      obtain ⟨dx, dy, h1, h2, hd⟩ := some2 hd
      exact .of_yields (diadr_sound ok (ho x (by simp [Op.operands]) _ hx _ h1) (ho y (by simp [Op.operands]) _ hy _ h2) hd ⟨e, hu, tsize_sound hn⟩)
    · cases hc
  | index t x y =>
    simp only [cop] at hc
    split at hc
    · rename_i x' y' hu hx hy
      simp only [Option.some.injEq] at hc; subst hc
      obtain ⟨dx, dy, h1, h2, hd⟩ := some2 hd
      exact .of_pure1 ok (didx_sound (k := .str) hu (ho x (by simp [Op.operands]) _ hx _ h1) (ho y (by simp [Op.operands]) _ hy _ h2) hd)
    · rename_i n e x' y' hu hx hy
      obtain ⟨s, b, hs, hb, hc⟩ := some2 hc
      simp only [Option.some.injEq] at hc; subst hc
      obtain ⟨dx, dy, h1, h2, hd⟩ := some2 hd
      exact .of_pure1 ok (didx_sound (k := .arr n s b.isSome) ⟨e, hu, tsize_sound hs, (tagg_sound hb).1⟩ (ho x (by simp [Op.operands]) _ hx _ h1) (ho y (by simp [Op.operands]) _ hy _ h2) hd)
    · cases hc
  | lookup t m k cok =>
    simp only [cop] at hc
    split at hc
    · rename_i kt e hu
      split at hc
      · rename_i kk z zv m' k' hk hz hm hkk
        simp only [Option.some.injEq] at hc; subst hc
        obtain ⟨dx, dy, h1, h2, hd⟩ := some2 hd
        obtain ⟨z1, z2⟩ := tzero_sound hz
        exact .of_pure1 ok (lookup_sound ok hu (ckey_sound hk) z1 (z2 C h) (ho m (by simp [Op.operands]) _ hm _ h1) (ho k (by simp [Op.operands]) _ hkk _ h2) hd)
      · cases hc
    · cases hc
  | typeAssert x xt t cok =>
    simp only [cop] at hc
    split at hc
    · rename_i td z zv x' ht hz hx
      simp only [Option.some.injEq] at hc; subst hc
      obtain ⟨dx, he, hd⟩ := some1 hd
      obtain ⟨c1, c2⟩ := cdesc_sound ht
      obtain ⟨z1, z2⟩ := tzero_sound hz
      exact .of_pure1 ok (tas_sound c1 c2 z1 (z2 C h) (ho x (by simp [Op.operands]) _ hx _ he) hd)
    · cases hc
  | makeInterface t x =>
    simp only [cop] at hc
    obtain ⟨td, x', ht, hx, hc⟩ := some2 hc
    simp only [Option.some.injEq] at hc; subst hc
    simp only [dpure, Option.map_eq_some_iff] at hd
    obtain ⟨dx, he, rfl⟩ := hd
    obtain ⟨c1, c2⟩ := cdesc_sound ht
    exact .of_pure1 ok (mkif_sound c1 c2 (ho x (by simp [Op.operands]) _ hx _ he))
  | extract x n =>
    simp only [cop, Option.map_eq_some_iff] at hc
    obtain ⟨x', hx, rfl⟩ := hc
    obtain ⟨dx, he, hd⟩ := some1 hd
    exact .of_pure1 ok (dext_sound (ho x (by simp [Op.operands]) _ hx _ he) hd)
  | call c =>
    obtain ⟨callee, args, tys⟩ := c
    cases callee with
    | value f =>
      cases f <;> simp only [cop, Option.map_eq_some_iff] at hc
      case func => obtain ⟨_, _, rfl⟩ := hc; simp [dpure] at hd
      all_goals (obtain ⟨_, _, _, _, hc⟩ := some2 hc; simp only [Option.some.injEq] at hc; subst hc; simp [dpure] at hd)
    | invoke r m =>
      simp only [cop] at hc
      obtain ⟨_, _, _, _, hc⟩ := some2 hc; simp only [Option.some.injEq] at hc; subst hc; simp [dpure] at hd
    | builtin b =>
      have hrun : ∀ (w : World), (execOp a.eval ⟨dst, .call ⟨.builtin b, args, tys⟩, ty, pos, after, guard⟩).run P w = (builtin b tys ty (args.map fun | .const _ => true | _ => false) (args.map a.eval)).run P w := by
        intro w; simp only [execOp, resolve, invoke, Sem.run_bind, Sem.run_pure, Result.andThen_ok]; rfl
      have hop : ∀ x ∈ args.toList, OpdOK C h G E a x := fun x hx => ho x (by simp only [Op.operands, Call.operands]; simpa using hx)
      have back : ∀ {s : Sem Value}, Yields C P h s d h.own h.next → (builtin b tys ty (args.map fun | .const _ => true | _ => false) (args.map a.eval)).run P h.w = (do pure (.value (← s)) : Sem Next).run P h.w →
          YN C P h (execOp a.eval ⟨dst, .call ⟨.builtin b, args, tys⟩, ty, pos, after, guard⟩) d h.own h.next := by
        intro s hs he
        obtain ⟨v, h', g1, g2⟩ := YN.of_yields hs
        exact ⟨v, h', by rw [hrun, he]; exact g1, g2⟩
      cases b <;> try (simp [cop] at hc; done)
      case append =>
        obtain ⟨al⟩ := args
        obtain ⟨tl⟩ := tys
        rcases al with _ | ⟨x, _ | ⟨y, _ | ⟨z, r⟩⟩⟩ <;> rcases tl with _ | ⟨xT, _ | ⟨yT, _ | ⟨zT, rT⟩⟩⟩ <;> simp only [cop, reduceCtorEq] at hc
        split at hc
        · simp only [Option.map_eq_some_iff] at hc
          obtain ⟨⟨n, b, z⟩, _, rfl⟩ := hc; simp [dpure] at hd
        · simp only [Option.map_eq_some_iff] at hc
          obtain ⟨⟨n, b, z⟩, _, rfl⟩ := hc; simp [dpure] at hd
        · simp only [Option.map_eq_some_iff] at hc
          obtain ⟨⟨n, b, z⟩, _, rfl⟩ := hc; simp [dpure] at hd
        · cases hc
      case cap =>
        obtain ⟨al⟩ := args
        obtain ⟨tl⟩ := tys
        rcases al with _ | ⟨x, _ | ⟨y, r⟩⟩ <;> rcases tl with _ | ⟨xT, _ | ⟨yT, rT⟩⟩ <;> simp only [cop, reduceCtorEq] at hc
        split at hc
        · rename_i e x' hu hx
          simp only [Option.some.injEq] at hc; subst hc
          simp only [dpure] at hd
          have ox := hop x (by simp) _ hx
          cases he : ev E x' with
          | none => simp [he] at hd
          | some dx =>
          refine back (dcap_sound (ty := ty) (x := dx) hu ok (ox _ he) ?_) (by simp [builtin])
          rw [he] at hd
          cases dx with
          | own id off n cap => cases cap <;> exact hd
          | _ => exact hd
        · cases hc
      case unsafeSliceData =>
        obtain ⟨al⟩ := args
        rcases al with _ | ⟨x, _ | ⟨y, r⟩⟩ <;> simp only [cop, reduceCtorEq, Option.map_eq_some_iff] at hc
        obtain ⟨x', hx, rfl⟩ := hc
        simp only [dpure] at hd
        have ox := hop x (by simp) _ hx
        cases he : ev E x' with
        | none => simp [he] at hd
        | some dx =>
        refine back (dsdata_sound (tys := tys) (ty := ty) (x := dx) ok (ox _ he) ?_) (by simp [builtin])
        rw [he] at hd
        cases dx with
        | sl hdr xs => cases hdr <;> cases xs <;> exact hd
        | _ => exact hd
      case unsafeString =>
        obtain ⟨al⟩ := args
        obtain ⟨tl⟩ := tys
        rcases al with _ | ⟨x, _ | ⟨y, _ | ⟨z, r⟩⟩⟩ <;> rcases tl with _ | ⟨xT, _ | ⟨yT, _ | ⟨zT, rT⟩⟩⟩ <;> simp only [cop, reduceCtorEq] at hc
        split at hc
        · split at hc
          · simp only [Option.some.injEq] at hc; subst hc; simp [dpure] at hd
          · cases hc
        · cases hc
      case recover =>
        obtain ⟨al⟩ := args
        rcases al with _ | ⟨x, r⟩ <;> simp only [cop, reduceCtorEq, Option.some.injEq] at hc
        subst hc; simp [dpure] at hd
      case copy =>
        obtain ⟨al⟩ := args
        obtain ⟨tl⟩ := tys
        rcases al with _ | ⟨x, _ | ⟨y, _ | ⟨z, r⟩⟩⟩ <;> rcases tl with _ | ⟨xT, _ | ⟨yT, _ | ⟨zT, rT⟩⟩⟩ <;> simp only [cop, reduceCtorEq] at hc
        split at hc
        · simp only [Option.map_eq_some_iff] at hc
          obtain ⟨n, _, rfl⟩ := hc; simp [dpure] at hd
        · cases hc
      case len =>
        obtain ⟨al⟩ := args
        obtain ⟨tl⟩ := tys
        rcases al with _ | ⟨x, _ | ⟨y, r⟩⟩ <;> rcases tl with _ | ⟨xT, _ | ⟨yT, rT⟩⟩ <;> simp only [cop, reduceCtorEq] at hc
        split at hc
        · rename_i x' hu hx
          simp only [Option.some.injEq] at hc; subst hc
          simp only [dpure] at hd
          have ox := hop x (by simp) _ hx
          split at hd
          · rename_i s he
            simp only [if_true] at hd
            exact back (dlen_sound (ty := ty) ok (ox _ he) hd hu) (by simp [builtin])
          · simp at hd
          · simp at hd
          · cases hd
        · rename_i e x' hu hx
          simp only [Option.some.injEq] at hc; subst hc
          simp only [dpure] at hd
          have ox := hop x (by simp) _ hx
          split at hd
          · simp at hd
          · rename_i hdr xs he
            simp only [Bool.false_eq_true, if_false] at hd
            exact back (dlen_sound (ty := ty) ok (ox _ he) hd ⟨_, hu⟩) (by simp [builtin])
          · rename_i id off n cap he
            simp only [Bool.false_eq_true, if_false] at hd
            obtain ⟨⟨s1, x1⟩, hl, hd⟩ := some1 hd
            exact back (dlen_sound (ty := ty) ok (ox _ he) hd ⟨⟨_, hu⟩, (live_get hl).choose, _, _, (live_get hl).choose_spec⟩) (by simp [builtin])
          · cases hd
        · cases hc
      case max =>
        simp only [cop, Option.map_eq_some_iff] at hc
        obtain ⟨xs, hx, rfl⟩ := hc
        obtain ⟨ds, he, hd⟩ := some1 hd
        have hr := opds_sound (C := C) (h := h) (a := a) hx he hop
        obtain ⟨v, g1, g2⟩ := dmax_sound (P := P) (C := C) (h := h) (tys := tys) (ty := ty) (us := args.map a.eval) (by simpa using hr) hd
        exact back (Yields.same ok g1 g2) rfl
      case min =>
        simp only [cop, Option.map_eq_some_iff] at hc
        obtain ⟨xs, hx, rfl⟩ := hc
        obtain ⟨ds, he, hd⟩ := some1 hd
        have hr := opds_sound (C := C) (h := h) (a := a) hx he hop
        obtain ⟨v, g1, g2⟩ := dmin_sound (P := P) (C := C) (h := h) (tys := tys) (ty := ty) (us := args.map a.eval) (by simpa using hr) hd
        exact back (Yields.same ok g1 g2) rfl
  | alloc t =>
    simp only [cop] at hc
    split at hc
    · split at hc
      · simp only [Option.some.injEq] at hc; subst hc; simp [dpure] at hd
      · cases hc
    · cases hc
  | box t x =>
    simp only [cop, Option.map_eq_some_iff] at hc
    obtain ⟨_, _, rfl⟩ := hc; simp [dpure] at hd
  | store t x y =>
    obtain ⟨_, _, hc⟩ := some1 hc
    obtain ⟨_, _, hc⟩ := some1 hc
    obtain ⟨_, _, hc⟩ := some1 hc
    simp only [Option.some.injEq] at hc; subst hc; simp [dpure] at hd
  | makeMap t r =>
    cases r <;> simp only [cop, reduceCtorEq, Option.some.injEq] at hc
    subst hc; simp [dpure] at hd
  | makeSlice t l c =>
    simp only [cop] at hc
    split at hc
    · split at hc
      · simp only [Option.some.injEq] at hc; subst hc; simp [dpure] at hd
      · cases hc
    · cases hc
  | mapUpdate t m k x =>
    simp only [cop] at hc
    split at hc
    · split at hc
      · simp only [Option.some.injEq] at hc; subst hc; simp [dpure] at hd
      · cases hc
    · cases hc
  | insert t m k x =>
    simp only [cop] at hc
    split at hc
    · split at hc
      · simp only [Option.some.injEq] at hc; subst hc; simp [dpure] at hd
      · cases hc
    · cases hc
  | range t x =>
    simp only [cop] at hc
    split at hc
    · simp only [Option.map_eq_some_iff] at hc
      obtain ⟨_, _, rfl⟩ := hc; simp [dpure] at hd
    · cases hc
  | next x b =>
    cases b <;> simp only [cop, Option.map_eq_some_iff, reduceCtorEq] at hc
    obtain ⟨_, _, rfl⟩ := hc; simp [dpure] at hd
  | panic x =>
    simp only [cop, Option.map_eq_some_iff] at hc
    obtain ⟨_, _, rfl⟩ := hc; simp [dpure] at hd
  | defer c =>
    obtain ⟨callee, ⟨al⟩, tys⟩ := c
    cases callee <;> cases al <;> simp only [cop, reduceCtorEq, Option.map_eq_some_iff] at hc
    obtain ⟨_, _, rfl⟩ := hc; simp [dpure] at hd
  | _ => simp [cop] at hc
end
end Gv
