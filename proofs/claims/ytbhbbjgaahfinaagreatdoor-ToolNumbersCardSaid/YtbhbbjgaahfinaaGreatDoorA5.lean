/- Part of the proof of ToolNumbers by an evaluator that is proved sound: A5. No condition of its own. -/
import Derived.Test.YtbhbbjgaahfinaaGreatDoorA4
set_option linter.unusedVariables false
set_option linter.unusedSimpArgs false
/-! The same evaluator, laid out for the kernel: each alternative a constant of its own. -/
namespace Gv
open Go
set_option linter.unusedVariables false

section
variable (T : Tab) (self : IC → St → Option (DX × St))

/-- A guarded thing. -/
def gd (g : Option (Nat × Bool)) (dst : Option Nat) (s : St) (k : St → Option (DX × St)) : Option (DX × St) :=
  match g with
  | none => k s
  | some gb =>
    match dguard s.E (some gb) with
    | some true => k s
    | some false => some (.normal, ⟨setDst s.E dst (.tup []), s.own, s.next, s.dfs⟩)
    | none => none
def runP (f : Tr Obj → Tr D → Option D) (dst : Option Nat) (g : Option (Nat × Bool)) (s : St) : Option (DX × St) :=
  gd g dst s fun s => match f s.own s.E with | some d => some (.normal, ⟨setDst s.E dst d, s.own, s.next, s.dfs⟩) | none => none
def runI (f : Tr Obj → Nat → Tr D → Option (D × Tr Obj × Nat)) (dst : Option Nat) (g : Option (Nat × Bool)) (s : St) : Option (DX × St) :=
  gd g dst s fun s => match f s.own s.next s.E with | some (d, own, next) => some (.normal, ⟨setDst s.E dst d, own, next, s.dfs⟩) | none => none
def runC (f : Tr Obj → Nat → Tr D → Ans) (dst : Option Nat) (g : Option (Nat × Bool)) (s : St) : Option (DX × St) :=
  gd g dst s fun s => match f s.own s.next s.E with
    | some (.ok d, own, next) => some (.normal, ⟨setDst s.E dst d, own, next, s.dfs⟩)
    | some (.pan d, own, next) => some (.panic d, ⟨s.E, own, next, s.dfs⟩)
    | none => none

abbrev Alt := Option Nat → Option (Nat × Bool) → Tab → (IC → St → Option (DX × St)) → St → Option (DX × St)
def pMov (x : Opd) (own : Tr Obj) (E : Tr D) : Option D := ev E x
def pPick (c a b : Opd) (own : Tr Obj) (E : Tr D) : Option D := match ev E c with | some (.v (.bool true)) => ev E a | some (.v (.bool false)) => ev E b | _ => none
def pBuild (z : List D) (ps : List (Nat × Nat × Opd)) (own : Tr Obj) (E : Tr D) : Option D := b1 (evp E ps) fun qs => dbuild z qs
def pBslice (size n : Nat) (z : D) (ps : List (Nat × Opd)) (own : Tr Obj) (E : Tr D) : Option D := b1 (evq E ps) fun qs => dbslice size n z qs
def pLoad (n : Option Nat) (a : Opd) (own : Tr Obj) (E : Tr D) : Option D := b1 (ev E a) fun a => dload own n a
def pNilck (x : Opd) (own : Tr Obj) (E : Tr D) : Option D := b1 (ev E x) fun d => dnilck own d
def pBin (op : BinOp) (k : BK) (x y : Opd) (own : Tr Obj) (E : Tr D) : Option D := b2 (ev E x) (ev E y) fun dx dy => dbinP own op k dx dy
def pUn (op : UnOp) (x : Opd) (own : Tr Obj) (E : Tr D) : Option D := b1 (ev E x) fun d => dun op d
def pConv (c : CK) (x : Opd) (own : Tr Obj) (E : Tr D) : Option D := b1 (ev E x) fun d => dconvP own c d
def pMkfn (f : Fn) (first capt : List Opd) (own : Tr Obj) (E : Tr D) : Option D := b2 (evs E first) (evs E capt) fun a b => some (.fn f a b)
def pFadr (off : Nat) (x : Opd) (own : Tr Obj) (E : Tr D) : Option D := b1 (ev E x) fun d => dfadr own off d
def pFld (off : Nat) (n : Option Nat) (x : Opd) (own : Tr Obj) (E : Tr D) : Option D := b1 (ev E x) fun d => dfld off n d
def pIadr (k : XK) (x i : Opd) (own : Tr Obj) (E : Tr D) : Option D := b2 (ev E x) (ev E i) fun x i => diadr own k x i
def pIdx (k : GK) (x i : Opd) (own : Tr Obj) (E : Tr D) : Option D := b2 (ev E x) (ev E i) fun x i => didx k x i
def pExt (i : Nat) (x : Opd) (own : Tr Obj) (E : Tr D) : Option D := b1 (ev E x) fun d => dext i d
def pMaxi (xs : List Opd) (own : Tr Obj) (E : Tr D) : Option D := b1 (evs E xs) fun ds => dmax ds
def pMini (xs : List Opd) (own : Tr Obj) (E : Tr D) : Option D := b1 (evs E xs) fun ds => dmin ds
def pMkif (t : TypeId) (x : Opd) (own : Tr Obj) (E : Tr D) : Option D := (ev E x).map (.iface t)
def pTas (t : TypeId) (z : D) (ok : Bool) (x : Opd) (own : Tr Obj) (E : Tr D) : Option D := b1 (ev E x) fun d => dtas t z ok d
def pLookup (k : BK) (z : D) (ok : Bool) (m i : Opd) (own : Tr Obj) (E : Tr D) : Option D := b2 (ev E m) (ev E i) fun m i => dlookup own k z ok m i
def pLen (str : Bool) (x : Opd) (own : Tr Obj) (E : Tr D) : Option D := dpure own E (.len str x)
def pSdata (x : Opd) (own : Tr Obj) (E : Tr D) : Option D := dpure own E (.sdata x)
def pCap (x : Opd) (own : Tr Obj) (E : Tr D) : Option D := dpure own E (.cap x)
def iSlice (k : SK) (x : Opd) (lo hi mx : Option Opd) (own : Tr Obj) (next : Nat) (E : Tr D) : Option (D × Tr Obj × Nat) := dplain own next E (.slice k x lo hi mx)
def iAlloc (ty : Nat) (z : D) (own : Tr Obj) (next : Nat) (E : Tr D) : Option (D × Tr Obj × Nat) := b1 z.cells? fun cs => some (.ptr next 0 0, own.put next (some (.arr ty cs.length [z])), next + 1)
def iBox (ty : Nat) (x : Opd) (own : Tr Obj) (next : Nat) (E : Tr D) : Option (D × Tr Obj × Nat) := b1 (ev E x) fun d => b1 d.cells? fun cs => some (.ptr next 0 0, own.put next (some (.arr ty cs.length [d])), next + 1)
def iStore (n : Nat) (a x : Opd) (own : Tr Obj) (next : Nat) (E : Tr D) : Option (D × Tr Obj × Nat) := b2 (ev E a) (ev E x) fun a x => b1 (dstore own n a x) fun own' => some (.junk, own', next)
def iMkslice (ty size bytes : Nat) (z : D) (l c : Opd) (own : Tr Obj) (next : Nat) (E : Tr D) : Option (D × Tr Obj × Nat) := dimp own next E (.mkslice ty size bytes z l c)
def iAppend (ty size bytes : Nat) (s x : Opd) (own : Tr Obj) (next : Nat) (E : Tr D) : Option (D × Tr Obj × Nat) := dimp own next E (.append ty size bytes s x)
def iAppz (ty size bytes : Nat) (z : D) (s n : Opd) (own : Tr Obj) (next : Nat) (E : Tr D) : Option (D × Tr Obj × Nat) := dimp own next E (.appz ty size bytes z s n)
def iCopy (size : Nat) (s x : Opd) (own : Tr Obj) (next : Nat) (E : Tr D) : Option (D × Tr Obj × Nat) := dimp own next E (.copy size s x)
def iUstr (ty : Nat) (p n : Opd) (own : Tr Obj) (next : Nat) (E : Tr D) : Option (D × Tr Obj × Nat) := dimp own next E (.ustr ty p n)
def iMkmap (own : Tr Obj) (next : Nat) (E : Tr D) : Option (D × Tr Obj × Nat) := some (.map next, own.put next (some (.map [])), next + 1)
def iMupd (k : BK) (m i x : Opd) (own : Tr Obj) (next : Nat) (E : Tr D) : Option (D × Tr Obj × Nat) := dimp own next E (.mupd k m i x)
def iRange (x : Opd) (own : Tr Obj) (next : Nat) (E : Tr D) : Option (D × Tr Obj × Nat) := dimp own next E (.range x)
def iNext (x : Opd) (own : Tr Obj) (next : Nat) (E : Tr D) : Option (D × Tr Obj × Nat) := dimp own next E (.next x)
def cCall (f : FuncId) (args : List Opd) (own : Tr Obj) (next : Nat) (E : Tr D) : Ans := b1 (evs E args) fun ds => dcall T self f ds own next
def cCallv (f : Opd) (args : List Opd) (own : Tr Obj) (next : Nat) (E : Tr D) : Ans := dstep T self own next E (.callv f args)
def cInv (r : Opd) (m : String) (args : List Opd) (own : Tr Obj) (next : Nat) (E : Tr D) : Ans := dstep T self own next E (.inv r m args)
def cPanic (x : Opd) (own : Tr Obj) (next : Nat) (E : Tr D) : Ans := dstep T self own next E (.panic x)

def aBad : Alt := fun dst g T self s => gd g dst s fun _ => none
def aMov (x : Opd) : Alt := fun dst g T self s => runP (pMov x) dst g s
def aPick (c a b : Opd) : Alt := fun dst g T self s => runP (pPick c a b) dst g s
def aAlloc (t : Nat) (z : D) : Alt := fun dst g T self s => runI (iAlloc t z) dst g s
def aBox (t : Nat) (x : Opd) : Alt := fun dst g T self s => runI (iBox t x) dst g s
def aBuild (z : List D) (ps : List (Nat × Nat × Opd)) : Alt := fun dst g T self s => runP (pBuild z ps) dst g s
def aBslice (size n : Nat) (z : D) (ps : List (Nat × Opd)) : Alt := fun dst g T self s => runP (pBslice size n z ps) dst g s
def aLoad (n : Option Nat) (a : Opd) : Alt := fun dst g T self s => runP (pLoad n a) dst g s
def aStore (n : Nat) (a x : Opd) : Alt := fun dst g T self s => runI (iStore n a x) dst g s
def aNilck (x : Opd) : Alt := fun dst g T self s => runP (pNilck x) dst g s
def aBin (op : BinOp) (k : BK) (x y : Opd) : Alt := fun dst g T self s => runP (pBin op k x y) dst g s
def aUn (op : UnOp) (x : Opd) : Alt := fun dst g T self s => runP (pUn op x) dst g s
def aConv (c : CK) (x : Opd) : Alt := fun dst g T self s => runP (pConv c x) dst g s
def aMkfn (f : Fn) (first capt : List Opd) : Alt := fun dst g T self s => runP (pMkfn f first capt) dst g s
def aMkslice (ty size bytes : Nat) (z : D) (l c : Opd) : Alt := fun dst g T self s => runI (iMkslice ty size bytes z l c) dst g s
def aSlice (k : SK) (x : Opd) (lo hi mx : Option Opd) : Alt := fun dst g T self s => runI (iSlice k x lo hi mx) dst g s
def aFadr (off : Nat) (x : Opd) : Alt := fun dst g T self s => runP (pFadr off x) dst g s
def aFld (off : Nat) (n : Option Nat) (x : Opd) : Alt := fun dst g T self s => runP (pFld off n x) dst g s
def aIadr (k : XK) (x i : Opd) : Alt := fun dst g T self s => runP (pIadr k x i) dst g s
def aIdx (k : GK) (x i : Opd) : Alt := fun dst g T self s => runP (pIdx k x i) dst g s
def aExt (i : Nat) (x : Opd) : Alt := fun dst g T self s => runP (pExt i x) dst g s
def aLen (str : Bool) (x : Opd) : Alt := fun dst g T self s => runP (pLen str x) dst g s
def aAppend (ty size bytes : Nat) (a x : Opd) : Alt := fun dst g T self s => runI (iAppend ty size bytes a x) dst g s
def aCopy (size : Nat) (a x : Opd) : Alt := fun dst g T self s => runI (iCopy size a x) dst g s
def aMaxi (xs : List Opd) : Alt := fun dst g T self s => runP (pMaxi xs) dst g s
def aMini (xs : List Opd) : Alt := fun dst g T self s => runP (pMini xs) dst g s
def aMkif (t : TypeId) (x : Opd) : Alt := fun dst g T self s => runP (pMkif t x) dst g s
def aTas (t : TypeId) (z : D) (ok : Bool) (x : Opd) : Alt := fun dst g T self s => runP (pTas t z ok x) dst g s
def aSdata (x : Opd) : Alt := fun dst g T self s => runP (pSdata x) dst g s
def aCap (x : Opd) : Alt := fun dst g T self s => runP (pCap x) dst g s
def aAppz (ty size bytes : Nat) (z : D) (a n : Opd) : Alt := fun dst g T self s => runI (iAppz ty size bytes z a n) dst g s
def aUstr (ty : Nat) (p n : Opd) : Alt := fun dst g T self s => runI (iUstr ty p n) dst g s
def aMkmap : Alt := fun dst g T self s => runI iMkmap dst g s
def aLookup (k : BK) (z : D) (ok : Bool) (m i : Opd) : Alt := fun dst g T self s => runP (pLookup k z ok m i) dst g s
def aMupd (k : BK) (m i x : Opd) : Alt := fun dst g T self s => runI (iMupd k m i x) dst g s
def aRange (x : Opd) : Alt := fun dst g T self s => runI (iRange x) dst g s
def aNext (x : Opd) : Alt := fun dst g T self s => runI (iNext x) dst g s
def aCall (f : FuncId) (args : List Opd) : Alt := fun dst g T self s => runC (cCall T self f args) dst g s
def aCallv (f : Opd) (args : List Opd) : Alt := fun dst g T self s => runC (cCallv T self f args) dst g s
def aInv (r : Opd) (m : String) (args : List Opd) : Alt := fun dst g T self s => runC (cInv T self r m args) dst g s
def aPanic (x : Opd) : Alt := fun dst g T self s => runC (cPanic T self x) dst g s
def aDefer (f : Opd) : Alt := fun dst g T self s => dins T self ⟨dst, .defer f, g⟩ s
def aRecover : Alt := fun dst g T self s => gd g dst s fun _ => none

noncomputable def fop (op : IOp) : Alt :=
  @IOp.rec (fun _ => Alt) aBad aMov aPick aAlloc aBox aBuild aBslice aLoad aStore aNilck aBin aUn aConv aMkfn aMkslice aSlice aFadr aFld aIadr aIdx aExt aLen aAppend aCopy aMaxi aMini aMkif aTas aSdata aCap aAppz aUstr aMkmap aLookup aMupd aRange aNext aCall aCallv aInv aPanic aDefer aRecover op


def opsNil (T : Tab) (self : IC → St → Option (DX × St)) (s : St) : Option (DX × St) := some (.normal, s)
noncomputable def opsCons (i : Ins) (is : List Ins) (ih : Tab → (IC → St → Option (DX × St)) → St → Option (DX × St)) (T : Tab) (self : IC → St → Option (DX × St)) (s : St) : Option (DX × St) :=
  match fop i.op i.dst i.guard T self s with
  | some (.normal, s') => ih T self s'
  | r => r
noncomputable def fops (is : List Ins) : Tab → (IC → St → Option (DX × St)) → St → Option (DX × St) :=
  @List.rec Ins (fun _ => Tab → (IC → St → Option (DX × St)) → St → Option (DX × St)) opsNil opsCons is

abbrev CAlt := Tab → (IC → St → Option (DX × St)) → St → Option (DX × St)
def cBad : CAlt := fun T self s => none
def cSkip : CAlt := fun T self s => some (.normal, s)
noncomputable def cRegion (ops : List Ins) : CAlt := fun T self s => fops ops T self s
def cDraw (ops : List (Ins × Cls)) : CAlt := fun T self s => stepC T self (.draw ops) s
def cSeq (a b : IC) : CAlt := fun T self s => match self a s with | some (.normal, s') => self b s' | r => r
def cCond (c : Opd) (a b : IC) : CAlt := fun T self s => match ev s.E c with | some (.v (.bool true)) => self a s | some (.v (.bool false)) => self b s | _ => none
def cBlock (id : Nat) (b : IC) : CAlt := fun T self s => match self b s with | some (.exit id', s') => if id' = id then some (.normal, s') else some (.exit id', s') | r => r
def cLoop (b : IC) : CAlt := fun T self s => match self b s with | some (.normal, s') => self (.loop b) s' | r => r
def cRangeF (nt : Nat) (f : Opd) (ps : List Nat) (assign body : IC) : CAlt := fun T self s => stepC T self (.rangeF nt f ps assign body) s
def cExit (id : Nat) : CAlt := fun T self s => some (.exit id, s)
def cScope (l : Nat) (rest b : IC) : CAlt := fun T self s => match self b s with | some (.goto l', s') => if l' = l then self (.scope l rest rest) s' else none | r => r
def cLabel (l : Nat) : CAlt := fun T self s => some (.normal, s)
def cGoto (l : Nat) : CAlt := fun T self s => some (.goto l, s)
def cRet : CAlt := fun T self s => some (.ret, s)
noncomputable def fstep (c : IC) : CAlt :=
  @IC.casesOn (fun _ => CAlt) c cBad cSkip cRegion cDraw cSeq cCond cBlock cLoop cRangeF cExit cScope cLabel cGoto cRet
noncomputable def fcode (T : Tab) (n : Nat) : IC → St → Option (DX × St) := Nat.rec (fun _ _ => none) (fun _ ih c s => fstep c T ih s) n

/-! ### It is the same -/
theorem gd_eq (g : Option (Nat × Bool)) (dst : Option Nat) (s : St) (k : St → Option (DX × St)) : gd g dst s k = match dguard s.E g with | some true => k s | some false => some (.normal, ⟨setDst s.E dst (.tup []), s.own, s.next, s.dfs⟩) | none => none := by
  cases g with
  | none => rfl
  | some gb => rfl
theorem ins_eq (op : IOp) (hd : ∀ f, op ≠ .defer f) (dst : Option Nat) (g : Option (Nat × Bool)) (s : St) : dins T self ⟨dst, op, g⟩ s = runC (fun own next E => dstep T self own next E op) dst g s := by
  simp only [dins, runC]
  rw [gd_eq]
  cases dguard s.E g with
  | none => rfl
  | some b =>
    cases b with
    | false => rfl
    | true =>
      cases op with
      | defer f => exact absurd rfl (hd f)
      | _ => rfl
theorem runC_congr {f f' : Tr Obj → Nat → Tr D → Ans} (h : ∀ own next E, f own next E = f' own next E) (dst : Option Nat) (g : Option (Nat × Bool)) (s : St) : runC f dst g s = runC f' dst g s := by
  have : f = f' := by funext a b c; exact h a b c
  rw [this]
theorem runP_eq (f : Tr Obj → Tr D → Option D) (dst : Option Nat) (g : Option (Nat × Bool)) (s : St) : runP f dst g s = runC (fun own next E => match f own E with | some d => some (.ok d, own, next) | none => none) dst g s := by
  simp only [runP, runC]
  rw [gd_eq, gd_eq]
  cases dguard s.E g with
  | none => rfl
  | some b =>
    cases b with
    | false => rfl
    | true => simp only; cases f s.own s.E <;> rfl
theorem runI_eq (f : Tr Obj → Nat → Tr D → Option (D × Tr Obj × Nat)) (dst : Option Nat) (g : Option (Nat × Bool)) (s : St) : runI f dst g s = runC (fun own next E => ok3 (f own next E)) dst g s := by
  simp only [runI, runC]
  rw [gd_eq, gd_eq]
  cases dguard s.E g with
  | none => rfl
  | some b =>
    cases b with
    | false => rfl
    | true => simp only; cases f s.own s.next s.E <;> rfl
theorem pure_some {own : Tr Obj} {next : Nat} {E : Tr D} {op : IOp} (hn : dimp own next E op = none) : ok3 (dplain own next E op) = match dpure own E op with | some d => some (.ok d, own, next) | none => none := by
  simp only [dplain]
  cases dpure own E op with
  | some d => rfl
  | none => simp only [hn]; rfl
theorem imp_some {own : Tr Obj} {next : Nat} {E : Tr D} {op : IOp} (hn : dpure own E op = none) : ok3 (dplain own next E op) = ok3 (dimp own next E op) := by
  simp only [dplain, hn]

theorem fop_eq (op : IOp) (dst : Option Nat) (g : Option (Nat × Bool)) (s : St) : fop op dst g T self s = dins T self ⟨dst, op, g⟩ s := by
  cases op with
  | defer f => rfl
  | bad =>
    rw [ins_eq _ _ _ (by simp)]
    show gd g dst s (fun _ => none) = _
    simp only [runC]; rw [gd_eq, gd_eq]
    cases dguard s.E g with
    | none => rfl
    | some b => cases b <;> rfl
  | recover =>
    rw [ins_eq _ _ _ (by simp)]
    show gd g dst s (fun _ => none) = _
    simp only [runC]; rw [gd_eq, gd_eq]
    cases dguard s.E g with
    | none => rfl
    | some b => cases b <;> rfl
  | call f args => rw [ins_eq _ _ _ (by simp)]; rfl
  | callv f args => rw [ins_eq _ _ _ (by simp)]; rfl
  | inv r m args => rw [ins_eq _ _ _ (by simp)]; rfl
  | panic x => rw [ins_eq _ _ _ (by simp)]; rfl
  | alloc t z => rw [ins_eq _ _ _ (by simp)]; show runI (iAlloc t z) dst g s = _; rw [runI_eq]; exact runC_congr (fun own next E => (show _ = ok3 (dplain own next E (.alloc t z)) from (imp_some (own := own) (next := next) (E := E) (op := .alloc t z) rfl).symm)) _ _ _
  | box t x => rw [ins_eq _ _ _ (by simp)]; show runI (iBox t x) dst g s = _; rw [runI_eq]; exact runC_congr (fun own next E => (show _ = ok3 (dplain own next E (.box t x)) from (imp_some (own := own) (next := next) (E := E) (op := .box t x) rfl).symm)) _ _ _
  | store n a x => rw [ins_eq _ _ _ (by simp)]; show runI (iStore n a x) dst g s = _; rw [runI_eq]; exact runC_congr (fun own next E => (show _ = ok3 (dplain own next E (.store n a x)) from (imp_some (own := own) (next := next) (E := E) (op := .store n a x) rfl).symm)) _ _ _
  | mkslice ty size bytes z l c => rw [ins_eq _ _ _ (by simp)]; show runI (iMkslice ty size bytes z l c) dst g s = _; rw [runI_eq]; exact runC_congr (fun own next E => (show _ = ok3 (dplain own next E (.mkslice ty size bytes z l c)) from (imp_some (own := own) (next := next) (E := E) (op := .mkslice ty size bytes z l c) rfl).symm)) _ _ _
  | append ty size bytes a x => rw [ins_eq _ _ _ (by simp)]; show runI (iAppend ty size bytes a x) dst g s = _; rw [runI_eq]; exact runC_congr (fun own next E => (show _ = ok3 (dplain own next E (.append ty size bytes a x)) from (imp_some (own := own) (next := next) (E := E) (op := .append ty size bytes a x) rfl).symm)) _ _ _
  | appz ty size bytes z a x => rw [ins_eq _ _ _ (by simp)]; show runI (iAppz ty size bytes z a x) dst g s = _; rw [runI_eq]; exact runC_congr (fun own next E => (show _ = ok3 (dplain own next E (.appz ty size bytes z a x)) from (imp_some (own := own) (next := next) (E := E) (op := .appz ty size bytes z a x) rfl).symm)) _ _ _
  | copy size a x => rw [ins_eq _ _ _ (by simp)]; show runI (iCopy size a x) dst g s = _; rw [runI_eq]; exact runC_congr (fun own next E => (show _ = ok3 (dplain own next E (.copy size a x)) from (imp_some (own := own) (next := next) (E := E) (op := .copy size a x) rfl).symm)) _ _ _
  | ustr ty p n => rw [ins_eq _ _ _ (by simp)]; show runI (iUstr ty p n) dst g s = _; rw [runI_eq]; exact runC_congr (fun own next E => (show _ = ok3 (dplain own next E (.ustr ty p n)) from (imp_some (own := own) (next := next) (E := E) (op := .ustr ty p n) rfl).symm)) _ _ _
  | mkmap => rw [ins_eq _ _ _ (by simp)]; show runI iMkmap dst g s = _; rw [runI_eq]; exact runC_congr (fun own next E => (show _ = ok3 (dplain own next E (.mkmap)) from (imp_some (own := own) (next := next) (E := E) (op := .mkmap) rfl).symm)) _ _ _
  | mupd k m i x => rw [ins_eq _ _ _ (by simp)]; show runI (iMupd k m i x) dst g s = _; rw [runI_eq]; exact runC_congr (fun own next E => (show _ = ok3 (dplain own next E (.mupd k m i x)) from (imp_some (own := own) (next := next) (E := E) (op := .mupd k m i x) rfl).symm)) _ _ _
  | range x => rw [ins_eq _ _ _ (by simp)]; show runI (iRange x) dst g s = _; rw [runI_eq]; exact runC_congr (fun own next E => (show _ = ok3 (dplain own next E (.range x)) from (imp_some (own := own) (next := next) (E := E) (op := .range x) rfl).symm)) _ _ _
  | next x => rw [ins_eq _ _ _ (by simp)]; show runI (iNext x) dst g s = _; rw [runI_eq]; exact runC_congr (fun own next E => (show _ = ok3 (dplain own next E (.next x)) from (imp_some (own := own) (next := next) (E := E) (op := .next x) rfl).symm)) _ _ _
  | slice k x lo hi mx => rw [ins_eq _ _ _ (by simp)]; show runI (iSlice k x lo hi mx) dst g s = _; rw [runI_eq]; rfl
  | mov x => rw [ins_eq _ _ _ (by simp)]; show runP (pMov x) dst g s = _; rw [runP_eq]; exact runC_congr (fun own next E => (show _ = ok3 (dplain own next E (.mov x)) from (pure_some (own := own) (next := next) (E := E) (op := .mov x) rfl).symm)) _ _ _
  | pick c a b => rw [ins_eq _ _ _ (by simp)]; show runP (pPick c a b) dst g s = _; rw [runP_eq]; exact runC_congr (fun own next E => (show _ = ok3 (dplain own next E (.pick c a b)) from (pure_some (own := own) (next := next) (E := E) (op := .pick c a b) rfl).symm)) _ _ _
  | build z ps => rw [ins_eq _ _ _ (by simp)]; show runP (pBuild z ps) dst g s = _; rw [runP_eq]; exact runC_congr (fun own next E => (show _ = ok3 (dplain own next E (.build z ps)) from (pure_some (own := own) (next := next) (E := E) (op := .build z ps) rfl).symm)) _ _ _
  | bslice size n z ps => rw [ins_eq _ _ _ (by simp)]; show runP (pBslice size n z ps) dst g s = _; rw [runP_eq]; exact runC_congr (fun own next E => (show _ = ok3 (dplain own next E (.bslice size n z ps)) from (pure_some (own := own) (next := next) (E := E) (op := .bslice size n z ps) rfl).symm)) _ _ _
  | load n a => rw [ins_eq _ _ _ (by simp)]; show runP (pLoad n a) dst g s = _; rw [runP_eq]; exact runC_congr (fun own next E => (show _ = ok3 (dplain own next E (.load n a)) from (pure_some (own := own) (next := next) (E := E) (op := .load n a) rfl).symm)) _ _ _
  | nilck x => rw [ins_eq _ _ _ (by simp)]; show runP (pNilck x) dst g s = _; rw [runP_eq]; exact runC_congr (fun own next E => (show _ = ok3 (dplain own next E (.nilck x)) from (pure_some (own := own) (next := next) (E := E) (op := .nilck x) rfl).symm)) _ _ _
  | bin o k x y => rw [ins_eq _ _ _ (by simp)]; show runP (pBin o k x y) dst g s = _; rw [runP_eq]; exact runC_congr (fun own next E => (show _ = ok3 (dplain own next E (.bin o k x y)) from (pure_some (own := own) (next := next) (E := E) (op := .bin o k x y) rfl).symm)) _ _ _
  | un o x => rw [ins_eq _ _ _ (by simp)]; show runP (pUn o x) dst g s = _; rw [runP_eq]; exact runC_congr (fun own next E => (show _ = ok3 (dplain own next E (.un o x)) from (pure_some (own := own) (next := next) (E := E) (op := .un o x) rfl).symm)) _ _ _
  | conv c x => rw [ins_eq _ _ _ (by simp)]; show runP (pConv c x) dst g s = _; rw [runP_eq]; exact runC_congr (fun own next E => (show _ = ok3 (dplain own next E (.conv c x)) from (pure_some (own := own) (next := next) (E := E) (op := .conv c x) rfl).symm)) _ _ _
  | mkfn f a c => rw [ins_eq _ _ _ (by simp)]; show runP (pMkfn f a c) dst g s = _; rw [runP_eq]; exact runC_congr (fun own next E => (show _ = ok3 (dplain own next E (.mkfn f a c)) from (pure_some (own := own) (next := next) (E := E) (op := .mkfn f a c) rfl).symm)) _ _ _
  | fadr o x => rw [ins_eq _ _ _ (by simp)]; show runP (pFadr o x) dst g s = _; rw [runP_eq]; exact runC_congr (fun own next E => (show _ = ok3 (dplain own next E (.fadr o x)) from (pure_some (own := own) (next := next) (E := E) (op := .fadr o x) rfl).symm)) _ _ _
  | fld o n x => rw [ins_eq _ _ _ (by simp)]; show runP (pFld o n x) dst g s = _; rw [runP_eq]; exact runC_congr (fun own next E => (show _ = ok3 (dplain own next E (.fld o n x)) from (pure_some (own := own) (next := next) (E := E) (op := .fld o n x) rfl).symm)) _ _ _
  | iadr k x i => rw [ins_eq _ _ _ (by simp)]; show runP (pIadr k x i) dst g s = _; rw [runP_eq]; exact runC_congr (fun own next E => (show _ = ok3 (dplain own next E (.iadr k x i)) from (pure_some (own := own) (next := next) (E := E) (op := .iadr k x i) rfl).symm)) _ _ _
  | idx k x i => rw [ins_eq _ _ _ (by simp)]; show runP (pIdx k x i) dst g s = _; rw [runP_eq]; exact runC_congr (fun own next E => (show _ = ok3 (dplain own next E (.idx k x i)) from (pure_some (own := own) (next := next) (E := E) (op := .idx k x i) rfl).symm)) _ _ _
  | ext i x => rw [ins_eq _ _ _ (by simp)]; show runP (pExt i x) dst g s = _; rw [runP_eq]; exact runC_congr (fun own next E => (show _ = ok3 (dplain own next E (.ext i x)) from (pure_some (own := own) (next := next) (E := E) (op := .ext i x) rfl).symm)) _ _ _
  | len b x => rw [ins_eq _ _ _ (by simp)]; show runP (pLen b x) dst g s = _; rw [runP_eq]; exact runC_congr (fun own next E => (show _ = ok3 (dplain own next E (.len b x)) from (pure_some (own := own) (next := next) (E := E) (op := .len b x) rfl).symm)) _ _ _
  | maxi xs => rw [ins_eq _ _ _ (by simp)]; show runP (pMaxi xs) dst g s = _; rw [runP_eq]; exact runC_congr (fun own next E => (show _ = ok3 (dplain own next E (.maxi xs)) from (pure_some (own := own) (next := next) (E := E) (op := .maxi xs) rfl).symm)) _ _ _
  | mini xs => rw [ins_eq _ _ _ (by simp)]; show runP (pMini xs) dst g s = _; rw [runP_eq]; exact runC_congr (fun own next E => (show _ = ok3 (dplain own next E (.mini xs)) from (pure_some (own := own) (next := next) (E := E) (op := .mini xs) rfl).symm)) _ _ _
  | mkif t x => rw [ins_eq _ _ _ (by simp)]; show runP (pMkif t x) dst g s = _; rw [runP_eq]; exact runC_congr (fun own next E => (show _ = ok3 (dplain own next E (.mkif t x)) from (pure_some (own := own) (next := next) (E := E) (op := .mkif t x) rfl).symm)) _ _ _
  | tas t z b x => rw [ins_eq _ _ _ (by simp)]; show runP (pTas t z b x) dst g s = _; rw [runP_eq]; exact runC_congr (fun own next E => (show _ = ok3 (dplain own next E (.tas t z b x)) from (pure_some (own := own) (next := next) (E := E) (op := .tas t z b x) rfl).symm)) _ _ _
  | sdata x => rw [ins_eq _ _ _ (by simp)]; show runP (pSdata x) dst g s = _; rw [runP_eq]; exact runC_congr (fun own next E => (show _ = ok3 (dplain own next E (.sdata x)) from (pure_some (own := own) (next := next) (E := E) (op := .sdata x) rfl).symm)) _ _ _
  | cap x => rw [ins_eq _ _ _ (by simp)]; show runP (pCap x) dst g s = _; rw [runP_eq]; exact runC_congr (fun own next E => (show _ = ok3 (dplain own next E (.cap x)) from (pure_some (own := own) (next := next) (E := E) (op := .cap x) rfl).symm)) _ _ _
  | lookup k z b m i => rw [ins_eq _ _ _ (by simp)]; show runP (pLookup k z b m i) dst g s = _; rw [runP_eq]; exact runC_congr (fun own next E => (show _ = ok3 (dplain own next E (.lookup k z b m i)) from (pure_some (own := own) (next := next) (E := E) (op := .lookup k z b m i) rfl).symm)) _ _ _

theorem fops_eq : ∀ (is : List Ins) (s : St), fops is T self s = dops T self is s
  | [], s => rfl
  | i :: is, s => by
    show opsCons i is (fops is) T self s = _
    simp only [opsCons, dops]
    rw [fop_eq]
    split
    · rename_i s' h
      rw [h, fops_eq is s']
    · rename_i h
      split
      · rename_i s' h2; exact absurd h2 (h _)
      · rfl
theorem fstep_eq (c : IC) (s : St) : fstep c T self s = stepC T self c s := by
  cases c with
  | region ops => show fops ops T self s = _; rw [fops_eq]; rfl
  | _ => rfl
end
theorem fcode_eq (T : Tab) (n : Nat) : fcode T n = dcode T n := by
  induction n with
  | zero => rfl
  | succ n ih =>
    funext c s
    show fstep c T (fcode T n) s = _
    rw [fstep_eq, ih, dcode_succ]
end Gv
