/- Part of the proof of ToolNumbers by an evaluator that is proved sound: A6. No condition of its own. -/
import Derived.CheckFast
import Derived.Test.YtbhbbjgaahfinaaGreatDoorA4
set_option linter.unusedVariables false
set_option linter.unusedSimpArgs false
/-! The compiler of code. -/
namespace Gv
open Go
set_option linter.unusedVariables false

section
variable (P : Program) (G : Glob)

def isStep (o : Oper) : Bool :=
  match o.op with
  | .call c => (match c.callee with | .builtin .len | .builtin .max | .builtin .min | .builtin .unsafeSliceData | .builtin .cap => false | _ => true)
  | .alloc _ | .box .. | .store .. | .mapUpdate .. | .insert .. | .makeMap .. | .makeSlice .. | .range .. | .next .. => true
  | _ => false

/-- The indices, in order, at which something holds. -/
def idxs {α : Type} (p : α → Bool) : List α → Nat → List Nat
  | [], _ => []
  | x :: xs, k => if p x then k :: idxs p xs (k + 1) else idxs p xs (k + 1)

/-- A variable that is made beside a call and filled later: its place, the temporary, the place of the store. -/
def findVar (bs : List Nat) (ops : Array Oper) (steps : List Nat) : List (Oper × Nat) → Option (Nat × Nat × Nat × Nat)
  | [] => none
  | (o, i) :: rest =>
    match o.op, o.dst with
    | .alloc ty, some t =>
      if steps.any fun k => if k < i then !(bs.getD i 0).testBit k else if i < k then !(bs.getD k 0).testBit i else false then
        match ops.toList.zipIdx.find? fun (s, j) => match s.op with | .store _ (.tmp t') _ => t' == t | _ => false with
        | some (_, j) => some (i, t, ty, j)
        | none => findVar bs ops steps rest
      else findVar bs ops steps rest
    | _, _ => findVar bs ops steps rest

/-- The class of an operation: a guess; 'drawOK' looks at it. -/
def clsOf (bs : List Nat) (steps : List Nat) (v : Option (Nat × Nat × Nat × Nat)) (o : Oper) (i : Nat) (ins : Ins) : Cls :=
  let plain := if isStep o then (match steps.filter (fun k => Nat.blt k i) with | [] => .step | l => (if (bs.getD i 0).testBit (l.getLastD 0) then .step else .swap))
    else .look (steps.filter fun s => (bs.getD i 0).testBit s).length (steps.length - (steps.filter fun s => (bs.getD s 0).testBit i).length)
  match v with
  | some (iv, t, ty, j) =>
    if i = iv then .var else if i = j then .fill t ty (match ins.op with | .store n _ _ => n | _ => 0) else plain
  | none => plain

def clss (bs : List Nat) (steps : List Nat) (v : Option (Nat × Nat × Nat × Nat)) : List Oper → List Ins → Nat → List Cls
  | o :: os, i :: is, k => clsOf bs steps v o k i :: clss bs steps v os is (k + 1)
  | _, _, _ => []

/-- The temporaries that an operation looks at. -/
def usesOf (ops : Array Oper) (o : Oper) : List Nat :=
  o.op.operands.toList.filterMap (fun x => match x with | .tmp t => some t | _ => none) ++ (match o.guard with | some (j, _) => (match dstOf ops j with | some (some t) => [t] | _ => []) | none => [])

/-- The temporary that is known once an operation is done. -/
def edst (i : Ins) : Cls → Option Nat
  | .var => none
  | .fill t _ _ => some t
  | _ => i.dst

def hasB (bs : List Nat) (i j : Nat) : Bool := (bs.getD i 0).testBit j

def orAll (bs : List Nat) : List Edge → Nat
  | [] => 0
  | e :: es => if Region.binds .any e then 2 ^ e.on ||| bs.getD e.on 0 ||| orAll bs es else orAll bs es

/-- The numbers of what stands before are right; what stands before has a smaller index. -/
def edgesOK (bs : List Nat) : List Oper → Nat → Bool
  | [], _ => true
  | o :: os, i => Nat.beq (bs.getD i 0) (orAll bs o.after.toList) && o.after.toList.all (fun e => !Region.binds .any e || Nat.blt e.on i) && edgesOK bs os (i + 1)

/-- An operation, compiled; its class; its place; how many steps are ahead of it in the text. -/
structure DItem where
  o : Oper
  i : Ins
  c : Cls
  k : Nat
  s : Nat

def mkItems : List Oper → List (Ins × Cls) → Nat → Nat → List DItem
  | o :: os, (i, c) :: is, k, s => ⟨o, i, c, k, s⟩ :: mkItems os is (k + 1) (if c.steps then s + 1 else s)
  | _, _, _, _ => []

def isSwap : Cls → Bool
  | .swap => true
  | _ => false

/-- Two operations, one of which may write what the other one looks at, or writes; two steps. -/
def pairOK (ops : Array Oper) (bs : List Nat) (x y : DItem) : Bool :=
  Nat.beq x.k y.k ||
  ((match edst y.i y.c with
   | none => true
   | some t => (match edst x.i x.c with | some t' => !Nat.beq t t' | none => true) && (!(usesOf ops x.o).any (Nat.beq t) || hasB bs x.k y.k || hasB bs y.k x.k)) &&
   (if x.c.steps && y.c.steps && Nat.blt y.s x.s then hasB bs x.k y.k || (isSwap x.c && !isSwap y.c && Nat.beq x.s (y.s + 1)) else true))

def lookOK (bs : List Nat) (items : List DItem) (x : DItem) : Bool :=
  match x.c with
  | .look lo hi => Nat.beq lo (items.countP fun y => y.c.steps && hasB bs x.k y.k) && Nat.beq (hi + items.countP fun y => y.c.steps && hasB bs y.k x.k) (items.countP fun y => y.c.steps)
  | _ => true

def isVar : Cls → Bool
  | .var => true
  | _ => false
def isFill : Cls → Bool
  | .fill _ _ _ => true
  | _ => false

def notTmp (t : Nat) : Operand → Bool
  | .tmp u => !Nat.beq u t
  | _ => true

/-- The variable that is made anywhere, and the store that fills it. -/
def fillOK (bs : List Nat) (v f : DItem) : Option Nat :=
  match v.o.op, v.o.guard, v.o.dst, v.i.op, f.c, f.o.op, f.o.guard, f.o.dst, f.i.op with
  | .alloc ty, none, some t, .alloc _ z, .fill t' ty' n, .store _ (.tmp t'') x, none, none, .store n' _ _ =>
    (match z.cells? with
     | some cs => if Nat.beq cs.length n && Nat.beq t t' && Nat.beq t t'' && Nat.beq ty ty' && Nat.beq n n' && notTmp t x && hasB bs f.k v.k then some t else none
     | none => none)
  | _, _, _, _, _, _, _, _, _ => none

def otherOK (ops : Array Oper) (bs : List Nat) (v f : DItem) (t : Nat) (x : DItem) : Bool :=
  Nat.beq x.k f.k || Nat.beq x.k v.k || ((match x.o.dst with | some t' => !Nat.beq t t' | none => true) && (!(usesOf ops x.o).any (Nat.beq t) || hasB bs x.k f.k))

def varOK (ops : Array Oper) (bs : List Nat) (items : List DItem) : Bool :=
  match items.filter (fun x => isVar x.c), items.filter (fun x => isFill x.c) with
  | [], [] => true
  | [v], [f] => (match fillOK bs v f with | some t => items.all (otherOK ops bs v f t) | none => false)
  | _, _ => false

def drawOK (ops : Array Oper) (bs : List Nat) (items : List DItem) : Bool :=
  edgesOK bs ops.toList 0 && items.all (fun x => items.all (pairOK ops bs x)) && items.all (lookOK bs items) && varOK ops bs items

def checkDraw (ops : Array Oper) (bs : List Nat) (is : List Ins) (cl : List Cls) : Option (List (Ins × Cls)) :=
  if drawOK ops bs (mkItems ops.toList (is.zip cl) 0 0) && Nat.beq cl.length ops.size then some (is.zip cl) else none

def cdraw (nt : Nat) (ops : Array Oper) : Option (List (Ins × Cls)) :=
  b1 (cinss P G nt (dstOf ops) ops.toList) fun is =>
    let bs := CheckFast.beforeL ops.toList 0 []
    let s0 := idxs isStep ops.toList 0
    let v := findVar bs ops s0 ops.toList.zipIdx
    let steps := match v with | some (i, _, _, _) => s0.filter fun k => k != i | none => s0
    let cl := clss bs steps v ops.toList is 0
    checkDraw ops bs is cl

/-- The labels of a scope's own code. -/
def labels : Code → List Nat
  | .label l => [l]
  | .seq a b => labels a ++ labels b
  | _ => []

/-- The code behind a label, if one is there: compiled. -/
def clabel (l : Nat) : Code → IC → Option IC
  | .seq a b, .seq a' b' =>
    match clabel l a a' with
    | some r => some (.seq r b')
    | none => clabel l b b'
  | .label l', ic => if l' = l then some .skip else none
  | _, _ => none

def ccode (nt : Nat) : Code → Option IC
  | .skip => some .skip
  | .region _ ops false => (cinss P G nt (dstOf ops) ops.toList).map .region
  | .region _ ops true => (cdraw P G nt ops).map .draw
  | .seq a b => b2 (ccode nt a) (ccode nt b) fun a b => some (.seq a b)
  | .cond c a b => b1 (copd G c) fun c => b2 (ccode nt a) (ccode nt b) fun a b => some (.cond c a b)
  | .block id b => (ccode nt b).map (.block id)
  | .loop b => (ccode nt b).map .loop
  | .exit id => some (.exit id)
  | .label l => some (.label l)
  | .goto l => some (.goto l)
  | .ret => some .ret
  | .refuse _ => some .bad
  | .scope b => b1 (ccode nt b) fun ic => match labels b with | l :: _ => (clabel l b ic).map fun r => .scope l r ic | [] => none
  | .rangeFunc f ps a b => b1 (copd G f) fun f => b2 (ccode nt a) (ccode nt b) fun a b => some (.rangeF nt f ps.toList a b)

def cres : List ResultVar → Option (List RK)
  | [] => some []
  | .tmp t :: rs => (cres rs).map (.tmp t :: ·)
  | .cell t ty :: rs => b2 (tagg P ty) (cres rs) fun n rs => some (.cell t n :: rs)

def cfunc (f : Nat) : Option FI :=
  b1 P.funcs[f]? fun fn =>
    if fn.name == "runtime.NumGoroutine" then none else
    b1 fn.body fun c =>
    b2 (ccode P G fn.ntmps c) (cres P fn.results.toList) fun ic rs =>
      if fn.params.size + fn.nfree ≤ fn.ntmps then some ⟨fn.params.size + fn.nfree, fn.ntmps, rs, ic⟩ else none
end
end Gv
