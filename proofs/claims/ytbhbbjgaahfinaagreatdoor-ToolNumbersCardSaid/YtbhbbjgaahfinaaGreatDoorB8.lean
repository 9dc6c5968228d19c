/- Part of the proof of ToolNumbers by an evaluator that is proved sound: B8. No condition of its own. -/
import Derived.Test.YtbhbbjgaahfinaaGreatDoorB7
set_option linter.unusedVariables false
set_option linter.unusedSimpArgs false
/-! An operation that changes the state: sound. -/
namespace Gv
open Go
set_option linter.unusedVariables false

section
variable {C : Cx} {h : HS} {P : Program} {G : Glob} {E : Tr D} {a : Act}

theorem dimp_sound (ok : OK C h) {o : Oper} {i : IOp} (hc : cop P G o = some i) (ho : ∀ x ∈ o.op.operands.toList, OpdOK C h G E a x) {d : D} {own' : Tr Obj} {next' : Nat} (hd : dimp h.own h.next E i = some (d, own', next')) :
    YN C P h (execOp a.eval o) d own' next' := by
  obtain ⟨dst, op, ty, pos, after, guard⟩ := o
  cases op with
  | alloc t =>
    simp only [cop] at hc
    split at hc
    · rename_i z zv hz
      split at hc
      · simp only [Option.some.injEq] at hc; subst hc
        obtain ⟨cs, hcs, hd⟩ := some1 hd
        simp only [Option.some.injEq, Prod.mk.injEq] at hd
        obtain ⟨rfl, rfl, rfl⟩ := hd
        obtain ⟨z1, z2⟩ := tzero_sound hz
        exact .of_yields (alloc_sound ok z1 (z2 C h) hcs)
      · cases hc
    · cases hc
  | box t x =>
    simp only [cop, Option.map_eq_some_iff] at hc
    obtain ⟨x', hx, rfl⟩ := hc
    obtain ⟨dx, he, hd⟩ := some1 hd
    obtain ⟨cs, hcs, hd⟩ := some1 hd
    simp only [Option.some.injEq, Prod.mk.injEq] at hd
    obtain ⟨rfl, rfl, rfl⟩ := hd
    exact .of_yields (box_sound ok (ho x (by simp [Op.operands]) _ hx _ he) hcs)
  | store t x y =>
    obtain ⟨n, hn, hc⟩ := some1 hc
    obtain ⟨x', hx, hc⟩ := some1 hc
    obtain ⟨y', hy, hc⟩ := some1 hc
    simp only [Option.some.injEq] at hc; subst hc
    obtain ⟨dx, dy, h1, h2, hd⟩ := some2 hd
    obtain ⟨own1, hs, hd⟩ := some1 hd
    simp only [Option.some.injEq, Prod.mk.injEq] at hd
    obtain ⟨rfl, rfl, rfl⟩ := hd
    exact .of_unit (store_sound ok (tsize_sound hn) (ho x (by simp [Op.operands]) _ hx _ h1) (ho y (by simp [Op.operands]) _ hy _ h2) hs)
  | makeMap t r =>
    cases r <;> simp only [cop, reduceCtorEq, Option.some.injEq] at hc
    subst hc
    simp only [dimp, Option.some.injEq, Prod.mk.injEq] at hd
    obtain ⟨rfl, rfl, rfl⟩ := hd
    exact .of_yields (mkmap_sound ok)
  | makeSlice t l c =>
    simp only [cop] at hc
    split at hc
    · rename_i e hs
      split at hc
      · rename_i size bytes z l' c' ht hl hcc
        simp only [Option.some.injEq] at hc; subst hc
        obtain ⟨dl, dc, h1, h2, hd⟩ := some2 hd
        obtain ⟨⟨r1, r2⟩, hm, hd⟩ := some1 hd
        simp only [Option.some.injEq, Prod.mk.injEq] at hd
        obtain ⟨rfl, rfl, rfl⟩ := hd
        exact .of_yields (make_sound ok (sliceOf_sound hs) (telem_sound ht) (ho l (by simp [Op.operands]) _ hl _ h1) (ho c (by simp [Op.operands]) _ hcc _ h2) hm)
      · cases hc
    · cases hc
  | slice t x lo hi mx =>
    simp only [cop] at hc
    split at hc
    · cases hc
    · rename_i hg
      have hgiven0 : mx.isSome = true → hi.isSome = true := by
        intro hm
        cases hh : hi.isSome with
        | true => rfl
        | false => exact absurd ⟨hm, hh⟩ hg
      have ox := ho x (by simp [Op.operands])
      have olo : ∀ z, lo = some z → OpdOK C h G E a z := fun z hz => ho z (by subst hz; simp [Op.operands])
      have ohi : ∀ z, hi = some z → OpdOK C h G E a z := fun z hz => ho z (by subst hz; simp [Op.operands])
      have omx : ∀ z, mx = some z → OpdOK C h G E a z := fun z hz => ho z (by subst hz; simp [Op.operands])
      have main : ∀ {k : SK} {x' : Opd} {lo' hi' mx' : Option Opd}, SKOK P t k → copd G x = some x' → copdo G lo = some lo' → copdo G hi = some hi' → copdo G mx = some mx' →
          dimp h.own h.next E (.slice k x' lo' hi' mx') = some (d, own', next') → YN C P h (do pure (.value (← Instr.sliceAt t (a.eval x) (lo.map a.eval) (hi.map a.eval) (mx.map a.eval)))) d own' next' := by
        intro k x' lo' hi' mx' hk hx h1 h2 h3 hd
        obtain ⟨dx, dlo, e0, e1, hd⟩ := some2 hd
        obtain ⟨dhi, dmx, e2, e3, hd⟩ := some2 hd
        obtain ⟨⟨q1, q2⟩, hs, hd⟩ := some1 hd
        simp only [Option.some.injEq, Prod.mk.injEq] at hd
        obtain ⟨rfl, rfl, rfl⟩ := hd
        have r1 := opdo_sound (C := C) (h := h) h1 e1 olo
        have r2 := opdo_sound (C := C) (h := h) h2 e2 ohi
        have r3 := opdo_sound (C := C) (h := h) h3 e3 omx
        refine .of_yields (dslice_sound ok hk (ox _ hx _ e0) r1 r2 r3 ?_ hs)
        intro hm
        have : mx.isSome = true := by
          cases mx with
          | none => simp only [Option.map_none] at r3; cases dmx <;> simp_all [RO]
          | some _ => rfl
        have := hgiven0 this
        cases dhi with
        | none => cases hi <;> simp_all [RO]
        | some _ => rfl
      split at hc
      · rename_i x' lo' hi' mx' h0 h1 h2 h3 h4
        simp only [Option.some.injEq] at hc; subst hc
        exact (main (k := .str) h0 h1 h2 h3 h4 hd)
      · rename_i e x' lo' hi' mx' h0 h1 h2 h3 h4
        simp only [Option.map_eq_some_iff] at hc
        obtain ⟨n, hn, rfl⟩ := hc
        exact (main (k := .sl n) ⟨e, h0, tsize_sound hn⟩ h1 h2 h3 h4 hd)
      · rename_i n e x' lo' hi' mx' h0 h1 h2 h3 h4
        simp only [Option.map_eq_some_iff] at hc
        obtain ⟨s, hn, rfl⟩ := hc
        exact (main (k := .arr n s) ⟨e, h0, tsize_sound hn⟩ h1 h2 h3 h4 hd)
      · cases hc
  | mapUpdate t m k x =>
    simp only [cop] at hc
    split at hc
    · rename_i kt e hu
      split at hc
      · rename_i kk m' k' x' hk hm hkk hx
        simp only [Option.some.injEq] at hc; subst hc
        obtain ⟨dm, h1, hd⟩ := some1 hd
        obtain ⟨dk, h2, hd⟩ := some1 hd
        obtain ⟨dx, h3, hd⟩ := some1 hd
        obtain ⟨own1, hs, hd⟩ := some1 hd
        simp only [Option.some.injEq, Prod.mk.injEq] at hd
        obtain ⟨rfl, rfl, rfl⟩ := hd
        exact .of_unit (mupd_sound ok hu (ckey_sound hk) (ho m (by simp [Op.operands]) _ hm _ h1) (ho k (by simp [Op.operands]) _ hkk _ h2) (ho x (by simp [Op.operands]) _ hx _ h3) hs)
      · cases hc
    · cases hc
  | insert t m k x =>
    simp only [cop] at hc
    split at hc
    · rename_i kt e hu
      split at hc
      · rename_i kk m' k' x' hk hm hkk hx
        simp only [Option.some.injEq] at hc; subst hc
        obtain ⟨dm, h1, hd⟩ := some1 hd
        obtain ⟨dk, h2, hd⟩ := some1 hd
        obtain ⟨dx, h3, hd⟩ := some1 hd
        obtain ⟨own1, hs, hd⟩ := some1 hd
        simp only [Option.some.injEq, Prod.mk.injEq] at hd
        obtain ⟨rfl, rfl, rfl⟩ := hd
        exact .of_unit (mupd_sound ok hu (ckey_sound hk) (ho m (by simp [Op.operands]) _ hm _ h1) (ho k (by simp [Op.operands]) _ hkk _ h2) (ho x (by simp [Op.operands]) _ hx _ h3) hs)
      · cases hc
    · cases hc
  | range t x =>
    simp only [cop] at hc
    split at hc
    · rename_i hu
      simp only [Option.map_eq_some_iff] at hc
      obtain ⟨x', hx, rfl⟩ := hc
      simp only [dimp] at hd
      split at hd
      · rename_i s he
        simp only [Option.some.injEq, Prod.mk.injEq] at hd
        obtain ⟨rfl, rfl, rfl⟩ := hd
        exact .of_yields (range_sound ok hu (ho x (by simp [Op.operands]) _ hx _ he))
      · cases hd
    · cases hc
  | next x b =>
    cases b <;> simp only [cop, Option.map_eq_some_iff, reduceCtorEq] at hc
    obtain ⟨x', hx, rfl⟩ := hc
    obtain ⟨dx, he, hd⟩ := some1 hd
    obtain ⟨⟨q1, q2⟩, hs, hd⟩ := some1 hd
    simp only [Option.some.injEq, Prod.mk.injEq] at hd
    obtain ⟨rfl, rfl, rfl⟩ := hd
    exact .of_yields (next_sound ok (ho x (by simp [Op.operands]) _ hx _ he) hs)
  | call c =>
    obtain ⟨callee, args, tys⟩ := c
    cases callee with
    | value f =>
      cases f <;> simp only [cop, Option.map_eq_some_iff] at hc
      case func => obtain ⟨_, _, rfl⟩ := hc; simp [dimp] at hd
      all_goals (obtain ⟨_, _, _, _, hc⟩ := some2 hc; simp only [Option.some.injEq] at hc; subst hc; simp [dimp] at hd)
    | invoke r m =>
      obtain ⟨_, _, _, _, hc⟩ := some2 hc; simp only [Option.some.injEq] at hc; subst hc; simp [dimp] at hd
    | builtin b =>
      have hrun : ∀ (w : World), (execOp a.eval ⟨dst, .call ⟨.builtin b, args, tys⟩, ty, pos, after, guard⟩).run P w = (builtin b tys ty (args.map fun | .const _ => true | _ => false) (args.map a.eval)).run P w := by
        intro w; simp only [execOp, resolve, invoke, Sem.run_bind, Sem.run_pure, Result.andThen_ok]; rfl
      have hop : ∀ x ∈ args.toList, OpdOK C h G E a x := fun x hx => ho x (by simp only [Op.operands, Call.operands]; simpa using hx)
      have back : ∀ {s : Sem Value}, Yields C P h s d own' next' → (builtin b tys ty (args.map fun | .const _ => true | _ => false) (args.map a.eval)).run P h.w = (do pure (.value (← s)) : Sem Next).run P h.w →
          YN C P h (execOp a.eval ⟨dst, .call ⟨.builtin b, args, tys⟩, ty, pos, after, guard⟩) d own' next' := by
        intro s hs he
        obtain ⟨v, h', g1, g2⟩ := YN.of_yields hs
        exact ⟨v, h', by rw [hrun, he]; exact g1, g2⟩
      cases b <;> try (simp [cop] at hc; done)
      case append =>
        obtain ⟨al⟩ := args
        obtain ⟨tl⟩ := tys
        rcases al with _ | ⟨x, _ | ⟨y, _ | ⟨z, r⟩⟩⟩ <;> rcases tl with _ | ⟨xT, _ | ⟨yT, _ | ⟨zT, rT⟩⟩⟩ <;> simp only [cop, reduceCtorEq] at hc
        split at hc
        · rename_i e e' x' y' hs hu hx hy
          simp only [Option.map_eq_some_iff] at hc
          obtain ⟨⟨n, b, z⟩, ht, rfl⟩ := hc
          obtain ⟨dx, dy, h1, h2, hd⟩ := some2 hd
          split at hd
          · rename_i r hr
            simp only [Option.some.injEq] at hd; subst hd
            exact back (dappend_sound (ty := ty) ok ⟨sliceOf_sound hs, .inl ⟨_, hu⟩⟩ (telem_sound ht) (hop x (by simp) _ hx _ h1) (hop y (by simp) _ hy _ h2) hr) (by simp [builtin])
          · exact back (dappIn_sound (ty := ty) ok ⟨sliceOf_sound hs, .inl ⟨_, hu⟩⟩ (telem_sound ht) (hop x (by simp) _ hx _ h1) (hop y (by simp) _ hy _ h2) hd) (by simp [builtin])
        · rename_i e x' y' hs hu hx hy
          simp only [Option.map_eq_some_iff] at hc
          obtain ⟨⟨n, b, z⟩, ht, rfl⟩ := hc
          obtain ⟨dx, dy, h1, h2, hd⟩ := some2 hd
          split at hd
          · rename_i r hr
            simp only [Option.some.injEq] at hd; subst hd
            exact back (dappend_sound (ty := ty) ok ⟨sliceOf_sound hs, .inr hu⟩ (telem_sound ht) (hop x (by simp) _ hx _ h1) (hop y (by simp) _ hy _ h2) hr) (by simp [builtin])
          · exact back (dappIn_sound (ty := ty) ok ⟨sliceOf_sound hs, .inr hu⟩ (telem_sound ht) (hop x (by simp) _ hx _ h1) (hop y (by simp) _ hy _ h2) hd) (by simp [builtin])
        · rename_i e k x' y' hs hu hx hy
          simp only [Option.map_eq_some_iff] at hc
          obtain ⟨⟨n, b, z⟩, ht, rfl⟩ := hc
          obtain ⟨dx, dy, h1, h2, hd⟩ := some2 hd
          have rx := hop x (by simp) _ hx _ h1
          have ry := hop y (by simp) _ hy _ h2
          split at hd
          · rename_i m
            split at hd
            · rename_i hcond
              simp only [Option.some.injEq, Prod.mk.injEq] at hd
              obtain ⟨rfl, rfl, rfl⟩ := hd
              simp only [R] at ry
              have e1 : a.eval x = .slice none 0 0 := by
                simp only [R] at rx
                rcases rx with rx | ⟨hne, _⟩
                · exact rx.1
                · exact absurd rfl hne
              refine back (appz_sound (ty := ty) ok (sliceOf_sound hs) hu (telem_sound ht) hcond.1 hcond.2.1 hcond.2.2) ?_
              simp [builtin, e1, ry]
            · cases hd
          · cases hd
        · cases hc
      case cap =>
        obtain ⟨al⟩ := args
        obtain ⟨tl⟩ := tys
        rcases al with _ | ⟨x, _ | ⟨y, r⟩⟩ <;> rcases tl with _ | ⟨xT, _ | ⟨yT, rT⟩⟩ <;> simp only [cop, reduceCtorEq] at hc
        split at hc
        · simp only [Option.some.injEq] at hc; subst hc; simp [dimp] at hd
        · cases hc
      case unsafeSliceData =>
        obtain ⟨al⟩ := args
        rcases al with _ | ⟨x, _ | ⟨y, r⟩⟩ <;> simp only [cop, reduceCtorEq, Option.map_eq_some_iff] at hc
        obtain ⟨x', hx, rfl⟩ := hc; simp [dimp] at hd
      case unsafeString =>
        obtain ⟨al⟩ := args
        obtain ⟨tl⟩ := tys
        rcases al with _ | ⟨x, _ | ⟨y, _ | ⟨z, r⟩⟩⟩ <;> rcases tl with _ | ⟨xT, _ | ⟨yT, _ | ⟨zT, rT⟩⟩⟩ <;> simp only [cop, reduceCtorEq] at hc
        split at hc
        · rename_i t p' n' hu hp hn
          split at hc
          · rename_i ht hs
            simp only [Option.some.injEq] at hc; subst hc
            obtain ⟨dp, dn, h1, h2, hd⟩ := some2 hd
            obtain ⟨m, hm, hd⟩ := some1 hd
            exact back (ustr_sound (ty := ty) (it := yT) ok hu ht hs (hop x (by simp) _ hp _ h1) (hop y (by simp) _ hn _ h2) hm hd) (by simp [builtin])
          · cases hc
        · cases hc
      case recover =>
        obtain ⟨al⟩ := args
        rcases al with _ | ⟨x, r⟩ <;> simp only [cop, reduceCtorEq, Option.some.injEq] at hc
        subst hc; simp [dimp] at hd
      case copy =>
        obtain ⟨al⟩ := args
        obtain ⟨tl⟩ := tys
        rcases al with _ | ⟨x, _ | ⟨y, _ | ⟨z, r⟩⟩⟩ <;> rcases tl with _ | ⟨xT, _ | ⟨yT, _ | ⟨zT, rT⟩⟩⟩ <;> simp only [cop, reduceCtorEq] at hc
        split at hc
        · rename_i e x' y' hs hx hy
          simp only [Option.map_eq_some_iff] at hc
          obtain ⟨n, hn, rfl⟩ := hc
          obtain ⟨dx, dy, h1, h2, hd⟩ := some2 hd
          obtain ⟨⟨q1, q2⟩, hq, hd⟩ := some1 hd
          simp only [Option.some.injEq, Prod.mk.injEq] at hd
          obtain ⟨rfl, rfl, rfl⟩ := hd
          exact back (copy_sound (ty := ty) (sT := yT) ok (sliceOf_sound hs) (tsize_sound hn) (hop x (by simp) _ hx _ h1) (hop y (by simp) _ hy _ h2) hq) (by simp [builtin])
        · cases hc
      case len =>
        obtain ⟨al⟩ := args
        obtain ⟨tl⟩ := tys
        rcases al with _ | ⟨x, _ | ⟨y, r⟩⟩ <;> rcases tl with _ | ⟨xT, _ | ⟨yT, rT⟩⟩ <;> simp only [cop, reduceCtorEq] at hc
        split at hc
        · simp only [Option.some.injEq] at hc; subst hc; simp [dimp] at hd
        · simp only [Option.some.injEq] at hc; subst hc; simp [dimp] at hd
        · cases hc
      case max =>
        simp only [cop, Option.map_eq_some_iff] at hc
        obtain ⟨xs, hx, rfl⟩ := hc; simp [dimp] at hd
      case min =>
        simp only [cop, Option.map_eq_some_iff] at hc
        obtain ⟨xs, hx, rfl⟩ := hc; simp [dimp] at hd
  | move x =>
    simp only [cop, Option.map_eq_some_iff] at hc
    obtain ⟨x', hx, rfl⟩ := hc; simp [dimp] at hd
  | assign x =>
    simp only [cop, Option.map_eq_some_iff] at hc
    obtain ⟨x', hx, rfl⟩ := hc; simp [dimp] at hd
  | pick c x y =>
    obtain ⟨c', h1, hc⟩ := some1 hc
    obtain ⟨x', h2, hc⟩ := some1 hc
    obtain ⟨y', h3, hc⟩ := some1 hc
    simp only [Option.some.injEq] at hc
    subst hc; simp [dimp] at hd
  | build t ps =>
    simp only [cop] at hc
    split at hc
    · split at hc
      · split at hc
        · simp only [Option.map_eq_some_iff] at hc
          obtain ⟨x', hx, rfl⟩ := hc; simp [dimp] at hd
        · cases hc
      · obtain ⟨size, hsz, hc⟩ := some1 hc
        simp only [Option.map_eq_some_iff] at hc
        obtain ⟨x', hx, rfl⟩ := hc; simp [dimp] at hd
      · cases hc
    · cases hc
  | buildSlice t n ps =>
    simp only [cop] at hc
    split at hc
    · split at hc
      · simp only [Option.some.injEq] at hc; subst hc; simp [dimp] at hd
      · cases hc
    · cases hc
  | load t x =>
    obtain ⟨n, x', hn, hx, hc⟩ := some2 hc
    simp only [Option.some.injEq] at hc; subst hc; simp [dimp] at hd
  | nilCheck x =>
    simp only [cop, Option.map_eq_some_iff] at hc
    obtain ⟨x', hx, rfl⟩ := hc; simp [dimp] at hd
  | binOp op t x y yt =>
    obtain ⟨c', h1, hc⟩ := some1 hc
    obtain ⟨x', h2, hc⟩ := some1 hc
    obtain ⟨y', h3, hc⟩ := some1 hc
    simp only [Option.some.injEq] at hc
    subst hc; simp [dimp] at hd
  | unOp op t x =>
    simp only [cop, Option.map_eq_some_iff] at hc
    obtain ⟨x', hx, rfl⟩ := hc; simp [dimp] at hd
  | convert s t x =>
    obtain ⟨n, x', hn, hx, hc⟩ := some2 hc
    simp only [Option.some.injEq] at hc; subst hc; simp [dimp] at hd
  | makeFunc fn first capt =>
    obtain ⟨n, x', hn, hx, hc⟩ := some2 hc
    simp only [Option.some.injEq] at hc; subst hc; simp [dimp] at hd
  | fieldAddr s x fi =>
    simp only [cop] at hc
    split at hc
    · split at hc
      · split at hc
        · simp only [Option.some.injEq] at hc; subst hc; simp [dimp] at hd
        · cases hc
      · cases hc
    · cases hc
  | field s x fi =>
    simp only [cop] at hc
    split at hc
    · split at hc
      · simp only [Option.map_eq_some_iff] at hc
        obtain ⟨x', hx, rfl⟩ := hc; simp [dimp] at hd
      · cases hc
    · cases hc
  | indexAddr t x y =>
    simp only [cop] at hc
    split at hc
    · simp only [Option.map_eq_some_iff] at hc
      obtain ⟨x', hx, rfl⟩ := hc; simp [dimp] at hd
    · simp only [Option.map_eq_some_iff] at hc
      obtain ⟨x', hx, rfl⟩ := hc; simp [dimp] at hd
    · cases hc
  | index t x y =>
    simp only [cop] at hc
    split at hc
    · simp only [Option.some.injEq] at hc; subst hc; simp [dimp] at hd
    · obtain ⟨s, b, hs, hb, hc⟩ := some2 hc
      simp only [Option.some.injEq] at hc; subst hc; simp [dimp] at hd
    · cases hc
  | lookup t m k cok =>
    simp only [cop] at hc
    split at hc
    · split at hc
      · simp only [Option.some.injEq] at hc; subst hc; simp [dimp] at hd
      · cases hc
    · cases hc
  | typeAssert x xt t cok =>
    simp only [cop] at hc
    split at hc
    · simp only [Option.some.injEq] at hc; subst hc; simp [dimp] at hd
    · cases hc
  | makeInterface t x =>
    obtain ⟨n, x', hn, hx, hc⟩ := some2 hc
    simp only [Option.some.injEq] at hc; subst hc; simp [dimp] at hd
  | extract x n =>
    simp only [cop, Option.map_eq_some_iff] at hc
    obtain ⟨x', hx, rfl⟩ := hc; simp [dimp] at hd
  | panic x =>
    simp only [cop, Option.map_eq_some_iff] at hc
    obtain ⟨_, _, rfl⟩ := hc; simp [dimp] at hd
  | defer c =>
    obtain ⟨callee, ⟨al⟩, tys⟩ := c
    cases callee <;> cases al <;> simp only [cop, reduceCtorEq, Option.map_eq_some_iff] at hc
    obtain ⟨_, _, rfl⟩ := hc; simp [dimp] at hd
  | _ => simp [cop] at hc
end
end Gv
