/- Part of the proof of ToolNumbers by an evaluator that is proved sound: A0. No condition of its own. -/
import Derived.RangeFuncIn
import Derived.OrdersIn
import Derived.RecoverIn
set_option linter.unusedVariables false
set_option linter.unusedSimpArgs false
/-! Abstract values, abstract heaps, and how they stand to the machine's. -/
namespace Gv
open Go

/-! ### Tries -/
inductive Tr (α : Type) where
  | nil
  | node (v : Option α) (c0 c1 c2 c3 c4 c5 c6 c7 : Tr α)

def sel8 {β : Type} (m : Nat) (x0 x1 x2 x3 x4 x5 x6 x7 : β) : β :=
  cond (Nat.ble m 3) (cond (Nat.ble m 1) (cond (Nat.beq m 0) x0 x1) (cond (Nat.beq m 2) x2 x3)) (cond (Nat.ble m 5) (cond (Nat.beq m 4) x4 x5) (cond (Nat.beq m 6) x6 x7))

namespace Tr
variable {α : Type}
def get : Tr α → Nat → Option α
  | .nil, _ => none
  | .node v c0 c1 c2 c3 c4 c5 c6 c7, k => cond (Nat.beq k 0) v (sel8 (Nat.mod (Nat.sub k 1) 8) (get c0 (Nat.div (Nat.sub k 1) 8)) (get c1 (Nat.div (Nat.sub k 1) 8)) (get c2 (Nat.div (Nat.sub k 1) 8)) (get c3 (Nat.div (Nat.sub k 1) 8)) (get c4 (Nat.div (Nat.sub k 1) 8)) (get c5 (Nat.div (Nat.sub k 1) 8)) (get c6 (Nat.div (Nat.sub k 1) 8)) (get c7 (Nat.div (Nat.sub k 1) 8)))
def setF : Nat → Tr α → Nat → Option α → Tr α
  | 0, t, _, _ => t
  | f + 1, .nil, k, x => cond (Nat.beq k 0) (.node x .nil .nil .nil .nil .nil .nil .nil .nil) (sel8 (Nat.mod (Nat.sub k 1) 8) (.node none (setF f .nil (Nat.div (Nat.sub k 1) 8) x) .nil .nil .nil .nil .nil .nil .nil) (.node none .nil (setF f .nil (Nat.div (Nat.sub k 1) 8) x) .nil .nil .nil .nil .nil .nil) (.node none .nil .nil (setF f .nil (Nat.div (Nat.sub k 1) 8) x) .nil .nil .nil .nil .nil) (.node none .nil .nil .nil (setF f .nil (Nat.div (Nat.sub k 1) 8) x) .nil .nil .nil .nil) (.node none .nil .nil .nil .nil (setF f .nil (Nat.div (Nat.sub k 1) 8) x) .nil .nil .nil) (.node none .nil .nil .nil .nil .nil (setF f .nil (Nat.div (Nat.sub k 1) 8) x) .nil .nil) (.node none .nil .nil .nil .nil .nil .nil (setF f .nil (Nat.div (Nat.sub k 1) 8) x) .nil) (.node none .nil .nil .nil .nil .nil .nil .nil (setF f .nil (Nat.div (Nat.sub k 1) 8) x)))
  | f + 1, .node v c0 c1 c2 c3 c4 c5 c6 c7, k, x => cond (Nat.beq k 0) (.node x c0 c1 c2 c3 c4 c5 c6 c7) (sel8 (Nat.mod (Nat.sub k 1) 8) (.node v (setF f c0 (Nat.div (Nat.sub k 1) 8) x) c1 c2 c3 c4 c5 c6 c7) (.node v c0 (setF f c1 (Nat.div (Nat.sub k 1) 8) x) c2 c3 c4 c5 c6 c7) (.node v c0 c1 (setF f c2 (Nat.div (Nat.sub k 1) 8) x) c3 c4 c5 c6 c7) (.node v c0 c1 c2 (setF f c3 (Nat.div (Nat.sub k 1) 8) x) c4 c5 c6 c7) (.node v c0 c1 c2 c3 (setF f c4 (Nat.div (Nat.sub k 1) 8) x) c5 c6 c7) (.node v c0 c1 c2 c3 c4 (setF f c5 (Nat.div (Nat.sub k 1) 8) x) c6 c7) (.node v c0 c1 c2 c3 c4 c5 (setF f c6 (Nat.div (Nat.sub k 1) 8) x) c7) (.node v c0 c1 c2 c3 c4 c5 c6 (setF f c7 (Nat.div (Nat.sub k 1) 8) x)))
def put (t : Tr α) (k : Nat) (x : Option α) : Tr α := setF (k + 1) t k x
@[simp] theorem get_nil (k : Nat) : (Tr.nil : Tr α).get k = none := by simp [get]
/-- A child, by its place. -/
def child (t : Tr α) (m : Nat) : Tr α :=
  match t with
  | .nil => .nil
  | .node v c0 c1 c2 c3 c4 c5 c6 c7 => sel8 m c0 c1 c2 c3 c4 c5 c6 c7
def top (t : Tr α) : Option α :=
  match t with
  | .nil => none
  | .node v c0 c1 c2 c3 c4 c5 c6 c7 => v
theorem sel8_map {β γ : Type} (f : β → γ) (m : Nat) (x0 x1 x2 x3 x4 x5 x6 x7 : β) : sel8 m (f x0) (f x1) (f x2) (f x3) (f x4) (f x5) (f x6) (f x7) = f (sel8 m x0 x1 x2 x3 x4 x5 x6 x7) := by
  unfold sel8
  cases Nat.ble m 3 <;> cases Nat.ble m 1 <;> cases Nat.beq m 0 <;> cases Nat.beq m 2 <;> cases Nat.ble m 5 <;> cases Nat.beq m 4 <;> cases Nat.beq m 6 <;> rfl
theorem get_eq (t : Tr α) (k : Nat) : t.get k = if k = 0 then t.top else (t.child ((k - 1) % 8)).get ((k - 1) / 8) := by
  cases t with
  | nil => simp [get, top, child]
  | node v c0 c1 c2 c3 c4 c5 c6 c7 =>
    simp only [get, top, child]
    by_cases h : k = 0
    · subst h; simp
    · have hb : Nat.beq k 0 = false := by cases k with | zero => exact absurd rfl h | succ k => rfl
      rw [hb, if_neg h, cond_false]
      exact sel8_map (fun c => get c (Nat.div (Nat.sub k 1) 8)) _ _ _ _ _ _ _ _ _
theorem top_setF (f : Nat) (t : Tr α) (k : Nat) (x : Option α) : (setF (f + 1) t k x).top = if k = 0 then x else t.top := by
  by_cases h : k = 0
  · subst h; cases t <;> simp [setF, top]
  · have hb : Nat.beq k 0 = false := by cases k with | zero => exact absurd rfl h | succ k => rfl
    rw [if_neg h]
    cases t with
    | nil =>
      simp only [setF, hb, cond_false]
      rw [← sel8_map top]
      simp only [top, sel8]
      simp
    | node v c0 c1 c2 c3 c4 c5 c6 c7 =>
      simp only [setF, hb, cond_false]
      rw [← sel8_map top]
      simp only [top, sel8]
      simp
theorem child_setF (f : Nat) (t : Tr α) (k : Nat) (x : Option α) (m : Nat) (hm : m < 8) : (setF (f + 1) t k x).child m = if k ≠ 0 ∧ m = (k - 1) % 8 then setF f (t.child m) ((k - 1) / 8) x else t.child m := by
  by_cases h : k = 0
  · subst h
    have : m = 0 ∨ m = 1 ∨ m = 2 ∨ m = 3 ∨ m = 4 ∨ m = 5 ∨ m = 6 ∨ m = 7 := by omega
    cases t with
    | nil => rcases this with rfl | rfl | rfl | rfl | rfl | rfl | rfl | rfl <;> rfl
    | node v c0 c1 c2 c3 c4 c5 c6 c7 => rcases this with rfl | rfl | rfl | rfl | rfl | rfl | rfl | rfl <;> rfl
  · have hb : Nat.beq k 0 = false := by cases k with | zero => exact absurd rfl h | succ k => rfl
    have hk : (k - 1) % 8 < 8 := Nat.mod_lt _ (by omega)
    have key : ∀ q, q < 8 → ∀ k', (k - 1) % 8 = q → (k - 1) / 8 = k' → (setF (f + 1) t k x).child m = if m = q then setF f (t.child m) k' x else t.child m := by
      intro q hq k' e1 e2
      have e1' : Nat.mod (Nat.sub k 1) 8 = q := e1
      have e2' : Nat.div (Nat.sub k 1) 8 = k' := e2
      have hm' : m = 0 ∨ m = 1 ∨ m = 2 ∨ m = 3 ∨ m = 4 ∨ m = 5 ∨ m = 6 ∨ m = 7 := by omega
      have hq' : q = 0 ∨ q = 1 ∨ q = 2 ∨ q = 3 ∨ q = 4 ∨ q = 5 ∨ q = 6 ∨ q = 7 := by omega
      cases t with
      | nil =>
        simp only [setF, hb, cond_false, e1', e2']
        rcases hm' with rfl | rfl | rfl | rfl | rfl | rfl | rfl | rfl <;> rcases hq' with rfl | rfl | rfl | rfl | rfl | rfl | rfl | rfl <;> rfl
      | node v c0 c1 c2 c3 c4 c5 c6 c7 =>
        simp only [setF, hb, cond_false, e1', e2']
        rcases hm' with rfl | rfl | rfl | rfl | rfl | rfl | rfl | rfl <;> rcases hq' with rfl | rfl | rfl | rfl | rfl | rfl | rfl | rfl <;> rfl
    rw [key _ hk _ rfl rfl]
    by_cases hmm : m = (k - 1) % 8
    · rw [if_pos hmm, if_pos ⟨h, hmm⟩]
    · rw [if_neg hmm, if_neg (fun hh => hmm hh.2)]
theorem get_setF_eq : ∀ (f : Nat) (t : Tr α) (k : Nat) (x : Option α), k < f → (setF f t k x).get k = x := by
  intro f
  induction f with
  | zero => intro t k x h; omega
  | succ f ih =>
    intro t k x h
    rw [get_eq]
    by_cases h0 : k = 0
    · rw [if_pos h0, top_setF, if_pos h0]
    · rw [if_neg h0, child_setF _ _ _ _ _ (Nat.mod_lt _ (by omega)), if_pos ⟨h0, rfl⟩]
      exact ih _ _ _ (by omega)
theorem get_setF_ne : ∀ (f : Nat) (t : Tr α) (k j : Nat) (x : Option α), j ≠ k → (setF f t k x).get j = t.get j := by
  intro f
  induction f with
  | zero => intro t k j x h; rfl
  | succ f ih =>
    intro t k j x h
    rw [get_eq, get_eq t]
    by_cases h0 : j = 0
    · rw [if_pos h0, if_pos h0, top_setF, if_neg (by omega)]
    · rw [if_neg h0, if_neg h0, child_setF _ _ _ _ _ (Nat.mod_lt _ (by omega))]
      by_cases hc : k ≠ 0 ∧ (j - 1) % 8 = (k - 1) % 8
      · rw [if_pos hc]; exact ih _ _ _ _ (by omega)
      · rw [if_neg hc]
@[simp] theorem get_put_eq (t : Tr α) (k : Nat) (x : Option α) : (t.put k x).get k = x := get_setF_eq _ _ _ _ (by omega)
theorem get_put_ne (t : Tr α) {k j : Nat} (x : Option α) (h : j ≠ k) : (t.put k x).get j = t.get j := get_setF_ne _ _ _ _ _ h
theorem get_put (t : Tr α) (k j : Nat) (x : Option α) : (t.put k x).get j = if j = k then x else t.get j := by
  split
  · subst_vars; simp
  · exact get_put_ne t x ‹_›
end Tr

/-! ### Abstract values -/
/-- What is known of a frozen slice's head. -/
inductive Hdr where
  | any | nil | ok | full | clip
  deriving DecidableEq

def Hdr.mayNil : Hdr → Bool
  | .any | .nil | .clip => true
  | _ => false
def Hdr.exact : Hdr → Bool
  | .full | .clip => true
  | _ => false

inductive D where
  | junk
  | v (x : Value)
  | str (s : List Nat)
  | sl (h : Hdr) (xs : List D)
  | own (id off n : Nat) (cap : Option Nat)
  | ptr (id i off : Nat)
  | ep (cs : List D)
  | fn (f : Fn) (first capt : List D)
  | iface (t : TypeId) (d : D)
  | agg (ds : List D)
  | tup (ds : List D)
  | map (id : Nat)
  | it (id : Nat)
  | yl (id : Nat)

end Gv
/-! Abstract programs, objects, heaps; the relation R between abstract values and the machine's. -/
namespace Gv
set_option linter.unusedVariables false
open Go

inductive Opd where
  | t (n : Nat)
  | k (d : D)

/-- A struct's field that is compared. -/
inductive FK where
  | int | bool | str
  deriving DecidableEq

/-- How two operands are compared, or joined. -/
inductive BK where
  | sc        -- ints
  | bl        -- bools
  | str
  | nilx      -- the left one against nil
  | nily
  | deep (ks : List FK)     -- structs of scalars
  | ptr       -- pointers
  deriving DecidableEq

inductive SK where
  | str
  | sl (size : Nat)
  | arr (n size : Nat)
  deriving DecidableEq

inductive XK where
  | sl (size : Nat)
  | arr (n size : Nat)
  deriving DecidableEq

inductive GK where
  | str
  | arr (n size : Nat) (agg : Bool)
  deriving DecidableEq

inductive CK where
  | int (k : IntKind)
  | bytes
  | same
  | ptr (ty size : Nat)   -- a pointer to an unsafe one, or back
  deriving DecidableEq

inductive IOp where
  | bad
  | mov (x : Opd)
  | pick (c a b : Opd)
  | alloc (ty : Nat) (z : D)
  | box (ty : Nat) (x : Opd)
  | build (z : List D) (ps : List (Nat × Nat × Opd))
  | bslice (size n : Nat) (z : D) (ps : List (Nat × Opd))
  | load (n : Option Nat) (a : Opd)
  | store (n : Nat) (a x : Opd)
  | nilck (x : Opd)
  | bin (op : BinOp) (k : BK) (x y : Opd)
  | un (op : UnOp) (x : Opd)
  | conv (c : CK) (x : Opd)
  | mkfn (f : Fn) (first capt : List Opd)
  | mkslice (ty size bytes : Nat) (z : D) (l c : Opd)
  | slice (k : SK) (x : Opd) (lo hi mx : Option Opd)
  | fadr (off : Nat) (x : Opd)
  | fld (off : Nat) (n : Option Nat) (x : Opd)
  | iadr (k : XK) (x i : Opd)
  | idx (k : GK) (x i : Opd)
  | ext (i : Nat) (x : Opd)
  | len (str : Bool) (x : Opd)
  | append (ty size bytes : Nat) (s x : Opd)
  | copy (size : Nat) (s x : Opd)
  | maxi (xs : List Opd)
  | mini (xs : List Opd)
  | mkif (t : TypeId) (x : Opd)
  | tas (t : TypeId) (z : D) (ok : Bool) (x : Opd)
  | sdata (x : Opd)
  | cap (x : Opd)
  | appz (ty size bytes : Nat) (z : D) (s n : Opd)
  | ustr (ty : Nat) (p n : Opd)
  | mkmap
  | lookup (k : BK) (z : D) (ok : Bool) (m i : Opd)
  | mupd (k : BK) (m i x : Opd)
  | range (x : Opd)
  | next (x : Opd)
  | call (f : FuncId) (args : List Opd)
  | callv (f : Opd) (args : List Opd)
  | inv (recv : Opd) (name : String) (args : List Opd)
  | panic (x : Opd)
  | defer (f : Opd)
  | recover

structure Ins where
  dst : Option Nat
  op : IOp
  guard : Option (Nat × Bool)

/-- The ways of an operation in a region that draws its order: it looks only (at the states from lo to hi); it changes the state; it makes a variable that another one fills. -/
inductive Cls where
  | look (lo hi : Nat)
  | step
  | swap         -- a store that may come ahead of the store before it
  | var
  | fill (t ty n : Nat)
  deriving DecidableEq

inductive IC where
  | bad
  | skip
  | region (ops : List Ins)
  | draw (ops : List (Ins × Cls))
  | seq (a b : IC)
  | cond (c : Opd) (a b : IC)
  | block (id : Nat) (b : IC)
  | loop (b : IC)
  | rangeF (nt : Nat) (f : Opd) (ps : List Nat) (assign body : IC)
  | exit (id : Nat)
  | scope (l : Nat) (rest b : IC)
  | label (l : Nat)
  | goto (l : Nat)
  | ret

/-- How far a range over a function is. -/
inductive LS where
  | ready | busy | done

/-- What is kept in memory. -/
inductive Obj where
  | arr (ty size : Nat) (xs : List D)
  | map (es : List (D × D))
  | it (s : List Nat) (pos : Nat)
  | loop (nt : Nat) (env : Tr D) (ps : List Nat) (assign body : IC) (st : LS) (jump : Option IC)
  | dfr

def Obj.sim : Obj → Obj → Prop
  | .arr t s _, .arr t' s' _ => t = t' ∧ s = s'
  | .map _, .map _ => True
  | .it s _, .it s' _ => s = s'
  | .loop .., .loop .. => True
  | .dfr, .dfr => True
  | _, _ => False
theorem Obj.sim_refl (o : Obj) : o.sim o := by cases o <;> simp [Obj.sim]
theorem Obj.sim_trans {a b c : Obj} (h : a.sim b) (k : b.sim c) : a.sim c := by
  cases a <;> cases b <;> simp [Obj.sim] at h <;> cases c <;> simp [Obj.sim] at k ⊢
  · exact ⟨h.1.trans k.1, h.2.trans k.2⟩
  · exact h.trans k

structure HS where
  own : Tr Obj
  next : Nat
  /-- where an object lies: its block, and the cell where it begins -/
  M : Nat → Nat × Nat
  w : World

def HS.owned (h : HS) (b : Nat) : Prop := ∃ id o, h.own.get id = some o ∧ (h.M id).1 = b

def cellsAt (w : World) (b off : Nat) (cs : List Value) : Prop := ∀ k (hk : k < cs.length), w.cell? ⟨b, off + k, none⟩ = some cs[k]

/-- A context: blocks that nobody may look at or write. -/
structure Cx where
  X : Nat → Prop
  cr : Nat → Code → IC → Prop

def stable (C : Cx) (h : HS) (b : Nat) : Prop := b < h.w.heap.size ∧ ¬ h.owned b ∧ ¬ C.X b

/-- The greatest length that is spoken of. -/
def top : Nat := 2 ^ 47

mutual
def R (C : Cx) (h : HS) : D → Value → Prop
  | .junk, _ => True
  | .v x, u => u = x
  | .str s, u => ∃ b : ByteArray, u = .string b ∧ b.data.toList.map UInt8.toNat = s ∧ s.length ≤ top
  | .sl hd xs, u => (u = .slice none 0 0 ∧ xs = [] ∧ hd.mayNil = true) ∨
      (hd ≠ .nil ∧ ∃ b off cap size cs, u = .slice (some ⟨b, off, none⟩) xs.length cap ∧ xs.length ≤ cap ∧ (hd.exact = true → cap = xs.length) ∧ xs.length ≤ top ∧
        (xs ≠ [] → stable C h b) ∧ cellsAt h.w b off cs ∧ RE C h size xs cs)
  | .own id off n cap, u => id < h.next ∧ u.oneCell' = true ∧ n ≤ top ∧ ∀ ty size xs, h.own.get id = some (.arr ty size xs) →
      ∃ c' cs e f, u = .slice (some ⟨(h.M id).1, (h.M id).2 + off * size, none⟩) n c' ∧ n ≤ c' ∧ (∀ c, cap = some c → c' = c) ∧
        h.w.heap[(h.M id).1]? = some (.cells cs e f) ∧ (h.M id).2 + (off + c') * size ≤ cs.size
  | .ptr id i off, u => id < h.next ∧ u.oneCell' = true ∧ ∀ ty size xs, h.own.get id = some (.arr ty size xs) → u = .pointer (some ⟨(h.M id).1, (h.M id).2 + i * size + off, none⟩)
  | .ep ds, u => ∃ b off cs, u = .pointer (some ⟨b, off, none⟩) ∧ stable C h b ∧ cellsAt h.w b off cs ∧ RL C h true ds cs
  | .fn f first capt, u => ∃ fs cs : Array Value, u = .func f fs cs ∧ RL C h false first fs.toList ∧ RL C h false capt cs.toList
  | .iface t d, u => ∃ x, u = .iface t x ∧ R C h d x
  | .agg ds, u => ∃ cs : Array Value, u = .agg cs ∧ RL C h true ds cs.toList
  | .tup ds, u => ∃ cs : Array Value, u = .tuple cs ∧ RL C h false ds cs.toList
  | .map id, u => id < h.next ∧ u.oneCell' = true ∧ ∀ es, h.own.get id = some (.map es) → u = .map (some (h.M id).1)
  | .yl id, u => id < h.next ∧ u.oneCell' = true ∧ ∀ nt env ps assign body st jump, h.own.get id = some (.loop nt env ps assign body st jump) → u = .func (.yield (h.M id).1) #[] #[]
  | .it id, u => id < h.next ∧ u.oneCell' = true ∧ ∀ s pos, h.own.get id = some (.it s pos) → u = .pointer (some ⟨(h.M id).1, 0, none⟩)
def RL (C : Cx) (h : HS) (s : Bool) : List D → List Value → Prop
  | [], cs => cs = []
  | d :: ds, cs => ∃ u rest, cs = u :: rest ∧ (s = true → u.oneCell' = true) ∧ R C h d u ∧ RL C h s ds rest
/-- The elements of a slice, each of so many cells, one behind the other. -/
def RE (C : Cx) (h : HS) (size : Nat) : List D → List Value → Prop
  | [], cs => cs = []
  | d :: ds, cs => ∃ u rest, cs = u.cells.toList ++ rest ∧ u.cells.size = size ∧ (∀ c ∈ u.cells.toList, c.oneCell' = true) ∧ R C h d u ∧ RE C h size ds rest
end

/-- h' is h, grown: what isn't owned is as it was. -/
structure Ext (h h' : HS) : Prop where
  size : h.w.heap.size ≤ h'.w.heap.size
  os : h'.w.os = h.w.os
  tape : h'.w.tape = h.w.tape
  output : h'.w.output = h.w.output
  old : ∀ b, b < h.w.heap.size → ¬ h.owned b → h'.w.heap[b]? = h.w.heap[b]?
  next : h.next ≤ h'.next
  M : ∀ id, id < h.next → h'.M id = h.M id
  live : ∀ id o', id < h.next → h'.own.get id = some o' → ∃ o, h.own.get id = some o ∧ o.sim o'
  newb : ∀ id o', h'.own.get id = some o' → h.owned (h'.M id).1 ∨ h.w.heap.size ≤ (h'.M id).1
  cells : ∀ (b : Nat) c e f, h.w.heap[b]? = some (.cells c e f) → ∃ c' f', h'.w.heap[b]? = some (.cells c' e f') ∧ c'.size = c.size

theorem Ext.refl (h : HS) : Ext h h where
  size := Nat.le_refl _
  os := rfl
  tape := rfl
  output := rfl
  old := fun _ _ _ => rfl
  next := Nat.le_refl _
  M := fun _ _ => rfl
  live := fun id o' _ ho => ⟨o', ho, o'.sim_refl⟩
  newb := fun id o' ho => .inl ⟨id, o', ho, rfl⟩
  cells := fun b c e f hc => ⟨c, f, hc, rfl⟩

theorem Ext.owned {h h' : HS} (e : Ext h h') {b : Nat} (ho : h'.owned b) : h.owned b ∨ h.w.heap.size ≤ b := by
  obtain ⟨id, o, hg, rfl⟩ := ho
  exact e.newb id o hg

theorem Ext.trans {a b c : HS} (h : Ext a b) (k : Ext b c) : Ext a c where
  size := Nat.le_trans h.size k.size
  os := k.os.trans h.os
  tape := k.tape.trans h.tape
  output := k.output.trans h.output
  old := fun x hx hn => (k.old x (Nat.lt_of_lt_of_le hx h.size) (fun ho => (h.owned ho).elim hn (fun hh => by omega))).trans (h.old x hx hn)
  next := Nat.le_trans h.next k.next
  M := fun id hid => (k.M id (Nat.lt_of_lt_of_le hid h.next)).trans (h.M id hid)
  live := fun id o' hid ho => by
    obtain ⟨o, ho1, hs⟩ := k.live id o' (Nat.lt_of_lt_of_le hid h.next) ho
    obtain ⟨o2, ho2, hs2⟩ := h.live id o hid ho1
    exact ⟨o2, ho2, Obj.sim_trans hs2 hs⟩
  newb := fun id o' ho => by
    rcases k.newb id o' ho with hk | hk
    · exact h.owned hk
    · exact .inr (Nat.le_trans h.size hk)
  cells := fun b c e f hc => by
    obtain ⟨c1, f1, h1, s1⟩ := h.cells b c e f hc
    obtain ⟨c2, f2, h2, s2⟩ := k.cells b c1 e f1 h1
    exact ⟨c2, f2, h2, s2.trans s1⟩

theorem stable.ext {C : Cx} {h h' : HS} {b : Nat} (s : stable C h b) (e : Ext h h') : stable C h' b := by
  obtain ⟨h1, h2, h3⟩ := s
  exact ⟨Nat.lt_of_lt_of_le h1 e.size, fun ho => (e.owned ho).elim h2 (fun hh => by omega), h3⟩

theorem cell?_of_heap {w w' : World} {a : Addr} (h : w'.heap[a.block]? = w.heap[a.block]?) : w'.cell? a = w.cell? a := by
  simp only [World.cell?, h]

theorem cellsAt.of_heap {w w' : World} {b off : Nat} {cs : List Value} (h : cellsAt w b off cs) (hb : w'.heap[b]? = w.heap[b]?) : cellsAt w' b off cs := by
  intro k hk
  rw [cell?_of_heap (a := ⟨b, off + k, none⟩) hb]; exact h k hk

theorem cellsAt.ext {C : Cx} {h h' : HS} {b off : Nat} {cs : List Value} (s : stable C h b) (e : Ext h h') (hc : cellsAt h.w b off cs) : cellsAt h'.w b off cs :=
  hc.of_heap (e.old b s.1 s.2.1)

/-- What R needs of a way from here to there. -/
structure Grow (C : Cx) (h : HS) (C' : Cx) (h' : HS) : Prop where
  stable : ∀ b, Gv.stable C h b → Gv.stable C' h' b ∧ h'.w.heap[b]? = h.w.heap[b]?
  next : h.next ≤ h'.next
  M : ∀ id, id < h.next → h'.M id = h.M id
  live : ∀ id o', id < h.next → h'.own.get id = some o' → ∃ o, h.own.get id = some o ∧ o.sim o'
  cells : ∀ (b : Nat) c e f, h.w.heap[b]? = some (.cells c e f) → ∃ c' f', h'.w.heap[b]? = some (.cells c' e f') ∧ c'.size = c.size

mutual
theorem R.mono {C C' : Cx} {h h' : HS} (e : Grow C h C' h') : ∀ (d : D) (u : Value), R C h d u → R C' h' d u
  | .junk, _, _ => by simp [R]
  | .v x, u, hr => by simpa [R] using hr
  | .str s, u, hr => by simpa [R] using hr
  | .sl hd xs, u, hr => by
    simp only [R] at hr ⊢
    rcases hr with hr | ⟨h1, b, off, cap, size, cs, h2, h3, h4, h5, h6, h7, h8⟩
    · exact .inl hr
    · refine .inr ⟨h1, b, off, cap, size, cs, h2, h3, h4, h5, fun hx => (e.stable _ (h6 hx)).1, ?_, RE.mono e size xs cs h8⟩
      by_cases hx : xs = []
      · subst hx
        simp only [RE] at h8
        subst h8
        intro k hk; simp at hk
      · exact h7.of_heap (e.stable _ (h6 hx)).2
  | .own id off n cap, u, hr => by
    simp only [R] at hr ⊢
    obtain ⟨h1, h0, h2, h3⟩ := hr
    refine ⟨Nat.lt_of_lt_of_le h1 e.next, h0, h2, fun ty size xs ho => ?_⟩
    obtain ⟨o, ho1, hs⟩ := e.live id _ h1 ho
    cases o <;> simp [Obj.sim] at hs
    obtain ⟨rfl, rfl⟩ := hs
    obtain ⟨c', cs, el, f, e1, e2, e3, e4, e5⟩ := h3 _ _ _ ho1
    rw [e.M id h1]
    obtain ⟨cs', f', e6, e7⟩ := e.cells _ _ _ _ e4
    exact ⟨c', cs', el, f', e1, e2, e3, e6, by rw [e7]; exact e5⟩
  | .ptr id i off, u, hr => by
    simp only [R] at hr ⊢
    obtain ⟨h1, h0, h3⟩ := hr
    refine ⟨Nat.lt_of_lt_of_le h1 e.next, h0, fun ty size xs ho => ?_⟩
    obtain ⟨o, ho1, hs⟩ := e.live id _ h1 ho
    cases o <;> simp [Obj.sim] at hs
    obtain ⟨rfl, rfl⟩ := hs
    rw [e.M id h1]
    exact h3 _ _ _ ho1
  | .ep ds, u, hr => by
    simp only [R] at hr ⊢
    obtain ⟨b, off, cs, h1, h2, h3, h4⟩ := hr
    exact ⟨b, off, cs, h1, (e.stable _ h2).1, h3.of_heap (e.stable _ h2).2, RL.mono e ds cs h4⟩
  | .fn f first capt, u, hr => by
    simp only [R] at hr ⊢
    obtain ⟨fs, cs, h1, h2, h3⟩ := hr
    exact ⟨fs, cs, h1, RL.mono e first _ h2, RL.mono e capt _ h3⟩
  | .iface t d, u, hr => by
    simp only [R] at hr ⊢
    obtain ⟨x, h1, h2⟩ := hr
    exact ⟨x, h1, R.mono e d x h2⟩
  | .agg ds, u, hr => by
    simp only [R] at hr ⊢
    obtain ⟨x, h1, h2⟩ := hr
    exact ⟨x, h1, RL.mono e ds _ h2⟩
  | .tup ds, u, hr => by
    simp only [R] at hr ⊢
    obtain ⟨x, h1, h2⟩ := hr
    exact ⟨x, h1, RL.mono e ds _ h2⟩
  | .map id, u, hr => by
    simp only [R] at hr ⊢
    obtain ⟨h1, h0, h3⟩ := hr
    refine ⟨Nat.lt_of_lt_of_le h1 e.next, h0, fun es ho => ?_⟩
    obtain ⟨o, ho1, hs⟩ := e.live id _ h1 ho
    cases o <;> simp [Obj.sim] at hs
    rw [e.M id h1]
    exact h3 _ ho1
  | .yl id, u, hr => by
    simp only [R] at hr ⊢
    obtain ⟨h1, h0, h3⟩ := hr
    refine ⟨Nat.lt_of_lt_of_le h1 e.next, h0, fun nt env ps assign body st jump ho => ?_⟩
    obtain ⟨o, ho1, hs⟩ := e.live id _ h1 ho
    cases o <;> simp [Obj.sim] at hs
    rw [e.M id h1]
    exact h3 _ _ _ _ _ _ _ ho1
  | .it id, u, hr => by
    simp only [R] at hr ⊢
    obtain ⟨h1, h0, h3⟩ := hr
    refine ⟨Nat.lt_of_lt_of_le h1 e.next, h0, fun s pos ho => ?_⟩
    obtain ⟨o, ho1, hs⟩ := e.live id _ h1 ho
    cases o <;> simp [Obj.sim] at hs
    rw [e.M id h1]
    exact h3 _ _ ho1
theorem RL.mono {C C' : Cx} {h h' : HS} (e : Grow C h C' h') {s : Bool} : ∀ (ds : List D) (cs : List Value), RL C h s ds cs → RL C' h' s ds cs
  | [], cs, hr => by simpa [RL] using hr
  | d :: ds, cs, hr => by
    simp only [RL] at hr ⊢
    obtain ⟨u, rest, h1, h0, h2, h3⟩ := hr
    exact ⟨u, rest, h1, h0, R.mono e d u h2, RL.mono e ds rest h3⟩
theorem RE.mono {C C' : Cx} {h h' : HS} (e : Grow C h C' h') (size : Nat) : ∀ (ds : List D) (cs : List Value), RE C h size ds cs → RE C' h' size ds cs
  | [], cs, hr => by simpa [RE] using hr
  | d :: ds, cs, hr => by
    simp only [RE] at hr ⊢
    obtain ⟨u, rest, h1, h2, h0, h3, h4⟩ := hr
    exact ⟨u, rest, h1, h2, h0, R.mono e d u h3, RE.mono e size ds rest h4⟩
end

theorem Grow.of_ext {C : Cx} {h h' : HS} (e : Ext h h') : Grow C h C h' where
  stable := fun b s => ⟨s.ext e, e.old b s.1 s.2.1⟩
  next := e.next
  M := e.M
  live := e.live
  cells := e.cells
theorem R.ext {C : Cx} {h h' : HS} (e : Ext h h') (d : D) (u : Value) (hr : R C h d u) : R C h' d u := R.mono (.of_ext e) d u hr
theorem RL.ext {C : Cx} {h h' : HS} (e : Ext h h') {s : Bool} (ds : List D) (cs : List Value) (hr : RL C h s ds cs) : RL C h' s ds cs := RL.mono (.of_ext e) ds cs hr
theorem RE.ext {C : Cx} {h h' : HS} (e : Ext h h') (size : Nat) (ds : List D) (cs : List Value) (hr : RE C h size ds cs) : RE C h' size ds cs := RE.mono (.of_ext e) size ds cs hr
end Gv
/-! Abstract heaps that are right, and the ways in which they grow. -/
namespace Gv
open Go
set_option linter.unusedVariables false

def RM (C : Cx) (h : HS) : List (D × D) → List MapEntry → Prop
  | [], es => es = []
  | (k, x) :: ds, es => ∃ e rest, es = e :: rest ∧ R C h k e.key ∧ R C h x e.val ∧ RM C h ds rest

def envR (C : Cx) (h : HS) (env : Tr D) (tmps : Array Value) : Prop := ∀ t d, env.get t = some d → ∃ u, tmps[t]? = some u ∧ R C h d u

def OR (C : Cx) (h : HS) (id : Nat) : Obj → Prop
  | .arr ty size xs => ∃ c, h.w.heap[(h.M id).1]? = some (.cells c ty (0, 0)) ∧ ∃ pre cs rest, c.toList = pre ++ (cs ++ rest) ∧ pre.length = (h.M id).2 ∧ RE C h size xs cs
  | .map es => ∃ ents clock, h.w.heap[(h.M id).1]? = some (.map ents clock) ∧ RM C h es ents.toList
  | .it s pos => ∃ b : ByteArray, h.w.heap[(h.M id).1]? = some (.stringIter b pos) ∧ b.data.toList.map UInt8.toNat = s ∧ s.length ≤ top
  | .loop nt env ps assign body st jump => ∃ r : Loop, h.w.heap[(h.M id).1]? = some (.loop r) ∧ r.tmps.size = nt ∧ envR C h env r.tmps ∧ r.params.toList = ps ∧
      C.cr nt r.assign assign ∧ C.cr nt r.body body ∧ r.state = (match st with | .ready => .ready | .busy => .busy | .done => .done) ∧
      (match r.pending, jump with | none, none => True | some c, some j => C.cr nt c j | _, _ => False)
  | .dfr => h.w.heap[(h.M id).1]? = some (.deferred (some []))

theorem RM.mono {C C' : Cx} {h h' : HS} (e : Grow C h C' h') : ∀ (ds : List (D × D)) (es : List MapEntry), RM C h ds es → RM C' h' ds es
  | [], es, hr => hr
  | (k, x) :: ds, es, hr => by
    obtain ⟨u, rest, h1, h2, h3, h4⟩ := hr
    exact ⟨u, rest, h1, h2.mono e, h3.mono e, RM.mono e ds rest h4⟩
theorem RM.ext {C : Cx} {h h' : HS} (e : Ext h h') (ds : List (D × D)) (es : List MapEntry) (hr : RM C h ds es) : RM C h' ds es := RM.mono (.of_ext e) ds es hr

theorem envR.mono {C C' : Cx} {h h' : HS} {env : Tr D} {tmps : Array Value} (e : Grow C h C' h') (hr : envR C h env tmps) : envR C' h' env tmps :=
  fun t d ht => let ⟨u, h1, h2⟩ := hr t d ht; ⟨u, h1, h2.mono e⟩

theorem envR.ext {C : Cx} {h h' : HS} {env : Tr D} {tmps : Array Value} (e : Ext h h') (hr : envR C h env tmps) : envR C h' env tmps :=
  fun t d ht => let ⟨u, h1, h2⟩ := hr t d ht; ⟨u, h1, h2.ext e⟩

theorem OR.mono {C C' : Cx} {h h' : HS} {id : Nat} {o : Obj} (e : Grow C h C' h') (hcr : C'.cr = C.cr) (hM : h'.M id = h.M id) (hb : h'.w.heap[(h.M id).1]? = h.w.heap[(h.M id).1]?)
    (ho : OR C h id o) : OR C' h' id o := by
  cases o with
  | arr ty size xs =>
    obtain ⟨c, h1, pre, cs, rest, h2, h3, h4⟩ := ho
    exact ⟨c, by rw [hM, hb]; exact h1, pre, cs, rest, h2, by rw [hM]; exact h3, h4.mono e⟩
  | map es =>
    obtain ⟨ents, clock, h1, h2⟩ := ho
    exact ⟨ents, clock, by rw [hM, hb]; exact h1, h2.mono e⟩
  | it s pos =>
    obtain ⟨b, h1, h2⟩ := ho
    exact ⟨b, by rw [hM, hb]; exact h1, h2⟩
  | loop nt env ps assign body st jump =>
    obtain ⟨r, h1, h2, h3, h4⟩ := ho
    exact ⟨r, by rw [hM, hb]; exact h1, h2, h3.mono e, by rw [hcr]; exact h4⟩
  | dfr => simp only [OR] at ho ⊢; rw [hM, hb]; exact ho

theorem OR.keep {C : Cx} {h h' : HS} {id : Nat} {o : Obj} (e : Ext h h') (hM : h'.M id = h.M id) (hb : h'.w.heap[(h.M id).1]? = h.w.heap[(h.M id).1]?)
    (ho : OR C h id o) : OR C h' id o := OR.mono (.of_ext e) rfl hM hb ho

structure OK (C : Cx) (h : HS) : Prop where
  id : ∀ id o, h.own.get id = some o → id < h.next ∧ (h.M id).1 < h.w.heap.size ∧ ¬ C.X (h.M id).1 ∧ OR C h id o
  inj : ∀ i j oi oj, h.own.get i = some oi → h.own.get j = some oj → (h.M i).1 = (h.M j).1 → i = j
  X : ∀ b, C.X b → b < h.w.heap.size
  dvd : ∀ id ty size xs, h.own.get id = some (.arr ty size xs) → (h.M id).2 % size = 0

/-- Objects that were there keep their sizes. -/
theorem OK.dvd_old {C : Cx} {h h' : HS} (ok : OK C h) (e : Ext h h') {id ty size : Nat} {xs : List D} (hid : id < h.next) (ho : h'.own.get id = some (.arr ty size xs)) : (h'.M id).2 % size = 0 := by
  obtain ⟨o, h1, h2⟩ := e.live id _ hid ho
  cases o <;> simp [Obj.sim] at h2
  obtain ⟨rfl, rfl⟩ := h2
  rw [e.M id hid]
  exact ok.dvd _ _ _ _ h1

/-! ### A block that is nobody's -/
def HS.push (h : HS) (o : Go.Obj) : HS := { h with w := { h.w with heap := h.w.heap.push o } }

theorem push_old {h : HS} {o : Go.Obj} {b : Nat} (hb : b < h.w.heap.size) : (h.push o).w.heap[b]? = h.w.heap[b]? := by
  simp only [HS.push, Array.getElem?_push]; rw [if_neg (by omega)]
theorem push_new {h : HS} {o : Go.Obj} : (h.push o).w.heap[h.w.heap.size]? = some o := by
  simp [HS.push]

theorem lt_of_heap {w : World} {b : Nat} {o : Go.Obj} (h : w.heap[b]? = some o) : b < w.heap.size := (Array.getElem?_eq_some_iff.1 h).1

theorem Ext.push {C : Cx} {h : HS} (ok : OK C h) (o : Go.Obj) : Ext h (h.push o) where
  size := by simp [HS.push]
  os := rfl
  tape := rfl
  output := rfl
  old := fun b hb _ => push_old hb
  next := Nat.le_refl _
  M := fun _ _ => rfl
  live := fun id o' _ ho => ⟨o', ho, o'.sim_refl⟩
  newb := fun id o' ho => .inl ⟨id, o', ho, rfl⟩
  cells := fun b c e f hc => ⟨c, f, by rw [push_old (lt_of_heap hc)]; exact hc, rfl⟩

theorem OK.push {C : Cx} {h : HS} (ok : OK C h) (o : Go.Obj) : OK C (h.push o) where
  id := fun id o' ho => by
    obtain ⟨h1, h2, h3, h4⟩ := ok.id id o' ho
    exact ⟨h1, by simp [HS.push]; exact Nat.lt_succ_of_lt h2, h3, h4.keep (Ext.push ok o) rfl (push_old h2)⟩
  inj := ok.inj
  X := fun b hb => by simp [HS.push]; exact Nat.lt_succ_of_lt (ok.X b hb)
  dvd := ok.dvd

/-! ### A new object -/
def upd {α : Type} (M : Nat → α) (k : Nat) (x : α) : Nat → α := fun i => if i = k then x else M i

def HS.alloc (h : HS) (g : Go.Obj) (o : Obj) : HS :=
  { own := h.own.put h.next (some o), next := h.next + 1, M := upd h.M h.next (h.w.heap.size, 0), w := { h.w with heap := h.w.heap.push g } }

theorem alloc_old {h : HS} {g : Go.Obj} {o : Obj} {b : Nat} (hb : b < h.w.heap.size) : (h.alloc g o).w.heap[b]? = h.w.heap[b]? := by
  simp only [HS.alloc, Array.getElem?_push]; rw [if_neg (by omega)]
theorem alloc_new {h : HS} {g : Go.Obj} {o : Obj} : (h.alloc g o).w.heap[h.w.heap.size]? = some g := by
  simp [HS.alloc]
theorem alloc_M_new {h : HS} {g : Go.Obj} {o : Obj} : (h.alloc g o).M h.next = (h.w.heap.size, 0) := by simp [HS.alloc, upd]
theorem alloc_M_old {h : HS} {g : Go.Obj} {o : Obj} {id : Nat} (hid : id < h.next) : (h.alloc g o).M id = h.M id := by
  simp only [HS.alloc, upd]; rw [if_neg (by omega)]

theorem Ext.alloc {C : Cx} {h : HS} (ok : OK C h) (g : Go.Obj) (o : Obj) : Ext h (h.alloc g o) where
  size := by simp [HS.alloc]
  os := rfl
  tape := rfl
  output := rfl
  old := fun b hb _ => alloc_old hb
  next := by simp [HS.alloc]
  M := fun id hid => alloc_M_old hid
  live := fun id o' hid ho => by
    simp only [HS.alloc] at ho
    rw [Tr.get_put_ne _ _ (by omega)] at ho
    exact ⟨o', ho, o'.sim_refl⟩
  newb := fun id o' ho => by
    by_cases hid : id = h.next
    · subst hid; exact .inr (by rw [alloc_M_new]; exact Nat.le_refl _)
    · simp only [HS.alloc] at ho
      rw [Tr.get_put_ne _ _ hid] at ho
      exact .inl ⟨id, o', ho, by rw [alloc_M_old (ok.id id o' ho).1]⟩
  cells := fun b c e f hc => ⟨c, f, by rw [alloc_old (lt_of_heap hc)]; exact hc, rfl⟩

theorem OK.alloc {C : Cx} {h : HS} (ok : OK C h) {g : Go.Obj} {o : Obj} (ho : OR C (h.alloc g o) h.next o) : OK C (h.alloc g o) where
  id := fun id o' hg => by
    by_cases hid : id = h.next
    · subst hid
      simp only [HS.alloc, Tr.get_put_eq, Option.some.injEq] at hg
      subst hg
      refine ⟨by simp [HS.alloc], by rw [alloc_M_new]; simp [HS.alloc], ?_, ho⟩
      rw [alloc_M_new]
      exact fun hx => by have := ok.X _ hx; simp at this
    · have hg' := hg
      simp only [HS.alloc] at hg'
      rw [Tr.get_put_ne _ _ hid] at hg'
      obtain ⟨h1, h2, h3, h4⟩ := ok.id id o' hg'
      rw [alloc_M_old h1]
      exact ⟨by simp [HS.alloc]; omega, by simp [HS.alloc]; omega, h3, h4.keep (Ext.alloc ok g o) (alloc_M_old h1) (alloc_old h2)⟩
  inj := fun i j oi oj hi hj hM => by
    simp only [HS.alloc] at hi hj
    by_cases h1 : i = h.next <;> by_cases h2 : j = h.next
    · rw [h1, h2]
    · rw [Tr.get_put_ne _ _ h2] at hj
      have h3 := ok.id j oj hj
      subst h1
      rw [alloc_M_new, alloc_M_old h3.1] at hM
      simp only at hM; omega
    · rw [Tr.get_put_ne _ _ h1] at hi
      have h3 := ok.id i oi hi
      subst h2
      rw [alloc_M_new, alloc_M_old h3.1] at hM
      simp only at hM; omega
    · rw [Tr.get_put_ne _ _ h1] at hi
      rw [Tr.get_put_ne _ _ h2] at hj
      rw [alloc_M_old (ok.id i oi hi).1, alloc_M_old (ok.id j oj hj).1] at hM
      exact ok.inj i j oi oj hi hj hM
  X := fun b hb => by simp [HS.alloc]; exact Nat.lt_succ_of_lt (ok.X b hb)
  dvd := fun id ty size xs hg => by
    by_cases hid : id = h.next
    · subst hid; rw [alloc_M_new]; simp
    · have hg' := hg
      simp only [HS.alloc] at hg'
      rw [Tr.get_put_ne _ _ hid] at hg'
      exact ok.dvd_old (Ext.alloc ok g o) (ok.id _ _ hg').1 hg

/-! ### An object that is changed -/
/-- Object id is o' now; its block is g. -/
def HS.setObj (h : HS) (id : Nat) (g : Go.Obj) (o : Obj) : HS :=
  { h with own := h.own.put id (some o), w := { h.w with heap := h.w.heap.setIfInBounds (h.M id).1 g } }

theorem setObj_other {h : HS} {id : Nat} {g : Go.Obj} {o : Obj} {b : Nat} (hb : b ≠ (h.M id).1) : (h.setObj id g o).w.heap[b]? = h.w.heap[b]? := by
  simp only [HS.setObj]
  rw [Array.getElem?_setIfInBounds_ne (by omega)]
theorem setObj_self {h : HS} {id : Nat} {g : Go.Obj} {o : Obj} (hb : (h.M id).1 < h.w.heap.size) : (h.setObj id g o).w.heap[(h.M id).1]? = some g := by
  simp [HS.setObj, hb]

theorem Ext.setObj {C : Cx} {h : HS} (ok : OK C h) {id : Nat} {o0 : Obj} (h0 : h.own.get id = some o0) (g : Go.Obj) {o : Obj} (hs : o0.sim o)
    (hc : ∀ c e f, h.w.heap[(h.M id).1]? = some (.cells c e f) → ∃ c' f', g = .cells c' e f' ∧ c'.size = c.size) : Ext h (h.setObj id g o) where
  size := by simp [HS.setObj]
  os := rfl
  tape := rfl
  output := rfl
  old := fun b hb hn => setObj_other (fun e => hn ⟨id, o0, h0, e.symm⟩)
  next := Nat.le_refl _
  M := fun _ _ => rfl
  live := fun i o' _ ho => by
    simp only [HS.setObj] at ho
    by_cases hi : i = id
    · subst hi
      rw [Tr.get_put_eq] at ho
      cases ho
      exact ⟨o0, h0, hs⟩
    · rw [Tr.get_put_ne _ _ hi] at ho
      exact ⟨o', ho, o'.sim_refl⟩
  newb := fun i o' ho => by
    simp only [HS.setObj] at ho
    by_cases hi : i = id
    · subst hi; exact .inl ⟨i, o0, h0, rfl⟩
    · rw [Tr.get_put_ne _ _ hi] at ho
      exact .inl ⟨i, o', ho, rfl⟩
  cells := fun b c e f hb => by
    by_cases hbe : b = (h.M id).1
    · subst hbe
      obtain ⟨c', f', hg, hsz⟩ := hc c e f hb
      exact ⟨c', f', by rw [setObj_self (lt_of_heap hb), hg], hsz⟩
    · exact ⟨c, f, by rw [setObj_other hbe]; exact hb, rfl⟩

theorem OK.setObj {C : Cx} {h : HS} (ok : OK C h) {id : Nat} {o0 : Obj} (h0 : h.own.get id = some o0) {g : Go.Obj} {o : Obj} (e : Ext h (h.setObj id g o))
    (ho : OR C (h.setObj id g o) id o) : OK C (h.setObj id g o) where
  id := fun i o' hg => by
    have hg' := hg
    simp only [HS.setObj] at hg'
    by_cases hi : i = id
    · subst hi
      rw [Tr.get_put_eq] at hg'
      cases hg'
      obtain ⟨h1, h2, h3, h4⟩ := ok.id i o0 h0
      exact ⟨h1, by simp [HS.setObj]; exact h2, h3, ho⟩
    · rw [Tr.get_put_ne _ _ hi] at hg'
      obtain ⟨h1, h2, h3, h4⟩ := ok.id i o' hg'
      refine ⟨h1, by simp [HS.setObj]; exact h2, h3, h4.keep e rfl (setObj_other ?_)⟩
      exact fun hb => hi (ok.inj i id o' o0 hg' h0 hb)
  inj := fun i j oi oj hi hj hM => by
    have live : ∀ k o', (h.setObj id g o).own.get k = some o' → ∃ o'', h.own.get k = some o'' := fun k o' hk => by
      simp only [HS.setObj] at hk
      by_cases hkk : k = id
      · exact ⟨o0, hkk ▸ h0⟩
      · rw [Tr.get_put_ne _ _ hkk] at hk; exact ⟨o', hk⟩
    obtain ⟨a, ha⟩ := live i oi hi
    obtain ⟨b, hb⟩ := live j oj hj
    exact ok.inj i j a b ha hb hM
  X := fun b hb => by simp [HS.setObj]; exact ok.X b hb
  dvd := fun i ty size xs hg => by
    refine ok.dvd_old e ?_ hg
    by_cases hi : i = id
    · subst hi; exact (ok.id _ _ h0).1
    · have hg' := hg
      simp only [HS.setObj] at hg'
      rw [Tr.get_put_ne _ _ hi] at hg'
      exact (ok.id _ _ hg').1

/-! ### An object that is forgotten -/
def HS.kill (h : HS) (id : Nat) : HS := { h with own := h.own.put id none }
theorem kill_get {h : HS} {id i : Nat} {o : Obj} (hi : (h.kill id).own.get i = some o) : i ≠ id ∧ h.own.get i = some o := by
  simp only [HS.kill] at hi
  by_cases he : i = id
  · subst he; simp at hi
  · rw [Tr.get_put_ne _ _ he] at hi; exact ⟨he, hi⟩
theorem Ext.kill (h : HS) (id : Nat) : Ext h (h.kill id) where
  size := Nat.le_refl _
  os := rfl
  tape := rfl
  output := rfl
  old := fun _ _ _ => rfl
  next := Nat.le_refl _
  M := fun _ _ => rfl
  live := fun i o' _ ho => ⟨o', (kill_get ho).2, o'.sim_refl⟩
  newb := fun i o' ho => .inl ⟨i, o', (kill_get ho).2, rfl⟩
  cells := fun b c e f hc => ⟨c, f, hc, rfl⟩
theorem OK.kill {C : Cx} {h : HS} (ok : OK C h) (id : Nat) : OK C (h.kill id) where
  id := fun i o ho => by
    obtain ⟨h1, h2, h3, h4⟩ := ok.id i o (kill_get ho).2
    exact ⟨h1, h2, h3, h4.keep (Ext.kill h id) rfl rfl⟩
  inj := fun i j oi oj hi hj => ok.inj i j oi oj (kill_get hi).2 (kill_get hj).2
  X := ok.X
  dvd := fun i ty size xs hg => ok.dvd _ _ _ _ (kill_get hg).2

/-! ### An array whose place another one takes -/
/-- Object id is gone; a new one lies in its block, from another cell on; the block is g. -/
def HS.move (h : HS) (id base : Nat) (g : Go.Obj) (o : Obj) : HS :=
  { own := (h.own.put id none).put h.next (some o), next := h.next + 1, M := upd h.M h.next ((h.M id).1, base), w := { h.w with heap := h.w.heap.setIfInBounds (h.M id).1 g } }

theorem move_get {h : HS} {id base : Nat} {g : Go.Obj} {o o' : Obj} {i : Nat} (hi : (h.move id base g o).own.get i = some o') :
    (i = h.next ∧ o' = o) ∨ (i ≠ h.next ∧ i ≠ id ∧ h.own.get i = some o') := by
  simp only [HS.move] at hi
  by_cases h1 : i = h.next
  · subst h1; rw [Tr.get_put_eq] at hi; cases hi; exact .inl ⟨rfl, rfl⟩
  · rw [Tr.get_put_ne _ _ h1] at hi
    by_cases h2 : i = id
    · subst h2; simp at hi
    · rw [Tr.get_put_ne _ _ h2] at hi; exact .inr ⟨h1, h2, hi⟩
theorem move_M_new {h : HS} {id base : Nat} {g : Go.Obj} {o : Obj} : (h.move id base g o).M h.next = ((h.M id).1, base) := by simp [HS.move, upd]
theorem move_M_old {h : HS} {id base : Nat} {g : Go.Obj} {o : Obj} {i : Nat} (hi : i < h.next) : (h.move id base g o).M i = h.M i := by
  simp only [HS.move, upd]; rw [if_neg (by omega)]
theorem move_other {h : HS} {id base : Nat} {g : Go.Obj} {o : Obj} {b : Nat} (hb : b ≠ (h.M id).1) : (h.move id base g o).w.heap[b]? = h.w.heap[b]? := by
  simp only [HS.move]
  rw [Array.getElem?_setIfInBounds_ne (by omega)]
theorem move_self {h : HS} {id base : Nat} {g : Go.Obj} {o : Obj} (hb : (h.M id).1 < h.w.heap.size) : (h.move id base g o).w.heap[(h.M id).1]? = some g := by
  simp [HS.move, hb]

theorem Ext.move {C : Cx} {h : HS} (ok : OK C h) {id : Nat} {o0 : Obj} (h0 : h.own.get id = some o0) (base : Nat) (g : Go.Obj) (o : Obj)
    (hc : ∀ c e f, h.w.heap[(h.M id).1]? = some (.cells c e f) → ∃ c' f', g = .cells c' e f' ∧ c'.size = c.size) : Ext h (h.move id base g o) where
  size := by simp [HS.move]
  os := rfl
  tape := rfl
  output := rfl
  old := fun b hb hn => move_other (fun e => hn ⟨id, o0, h0, e.symm⟩)
  next := by simp [HS.move]
  M := fun i hi => move_M_old hi
  live := fun i o' hid ho => by
    rcases move_get ho with ⟨h1, h2⟩ | ⟨h1, h2, h3⟩
    · omega
    · exact ⟨o', h3, o'.sim_refl⟩
  newb := fun i o' ho => by
    rcases move_get ho with ⟨h1, h2⟩ | ⟨h1, h2, h3⟩
    · subst h1; rw [move_M_new]; exact .inl ⟨id, o0, h0, rfl⟩
    · rw [move_M_old (ok.id i o' h3).1]; exact .inl ⟨i, o', h3, rfl⟩
  cells := fun b c e f hb => by
    by_cases hbe : b = (h.M id).1
    · subst hbe
      obtain ⟨c', f', hg, hsz⟩ := hc c e f hb
      exact ⟨c', f', by rw [move_self (lt_of_heap hb), hg], hsz⟩
    · exact ⟨c, f, by rw [move_other hbe]; exact hb, rfl⟩

theorem OK.move {C : Cx} {h : HS} (ok : OK C h) {id : Nat} {o0 : Obj} (h0 : h.own.get id = some o0) {base : Nat} {g : Go.Obj} {o : Obj} (e : Ext h (h.move id base g o))
    (ho : OR C (h.move id base g o) h.next o) (hb : ∀ ty size xs, o = .arr ty size xs → base % size = 0) : OK C (h.move id base g o) where
  id := fun i o' hg => by
    rcases move_get hg with ⟨h1, h2⟩ | ⟨h1, h2, h3⟩
    · subst h1; subst h2
      rw [move_M_new]
      obtain ⟨h1, h2, h3, h4⟩ := ok.id id o0 h0
      exact ⟨by simp [HS.move], by simp [HS.move]; exact h2, h3, ho⟩
    · obtain ⟨k1, k2, k3, k4⟩ := ok.id i o' h3
      rw [move_M_old k1]
      refine ⟨by simp [HS.move]; omega, by simp [HS.move]; exact k2, k3, k4.keep e (move_M_old k1) (move_other ?_)⟩
      exact fun hb => h2 (ok.inj i id o' o0 h3 h0 hb)
  inj := fun i j oi oj hi hj hM => by
    rcases move_get hi with ⟨h1, h2⟩ | ⟨h1, h2, h3⟩ <;> rcases move_get hj with ⟨k1, k2⟩ | ⟨k1, k2, k3⟩
    · rw [h1, k1]
    · subst h1
      rw [move_M_new, move_M_old (ok.id j oj k3).1] at hM
      exact absurd (ok.inj j id oj o0 k3 h0 hM.symm) k2
    · subst k1
      rw [move_M_new, move_M_old (ok.id i oi h3).1] at hM
      exact absurd (ok.inj i id oi o0 h3 h0 hM) h2
    · rw [move_M_old (ok.id i oi h3).1, move_M_old (ok.id j oj k3).1] at hM
      exact ok.inj i j oi oj h3 k3 hM
  X := fun b hb => by simp [HS.move]; exact ok.X b hb
  dvd := fun i ty size xs hg => by
    rcases move_get hg with ⟨h1, h2⟩ | ⟨h1, h2, h3⟩
    · subst h1; rw [move_M_new]; exact hb ty size xs h2.symm
    · exact ok.dvd_old e (ok.id _ _ h3).1 hg
end Gv
/-! Lists of abstract values and lists of the machine's. -/
namespace Gv
open Go
set_option linter.unusedVariables false

section
variable {C : Cx} {h : HS}
theorem RL.length {s : Bool} : ∀ {ds : List D} {cs : List Value}, RL C h s ds cs → cs.length = ds.length
  | [], cs, hr => by simp only [RL] at hr; subst hr; rfl
  | d :: ds, cs, hr => by
    simp only [RL] at hr
    obtain ⟨u, rest, rfl, _, _, h3⟩ := hr
    simp [RL.length h3]
theorem RL.get {s : Bool} : ∀ {ds : List D} {cs : List Value} (k : Nat) {d : D}, RL C h s ds cs → ds[k]? = some d → ∃ u, cs[k]? = some u ∧ (s = true → u.oneCell' = true) ∧ R C h d u
  | [], cs, k, d, hr, hk => by simp at hk
  | x :: ds, cs, 0, d, hr, hk => by
    simp only [RL] at hr
    obtain ⟨u, rest, rfl, h1, h2, _⟩ := hr
    simp only [List.getElem?_cons_zero, Option.some.injEq] at hk
    subst hk
    exact ⟨u, by simp, h1, h2⟩
  | x :: ds, cs, k + 1, d, hr, hk => by
    simp only [RL] at hr
    obtain ⟨u, rest, rfl, _, _, h3⟩ := hr
    simp only [List.getElem?_cons_succ] at hk
    obtain ⟨v, hv, h4⟩ := RL.get k h3 hk
    exact ⟨v, by simpa using hv, h4⟩
theorem RL.one : ∀ {ds : List D} {cs : List Value}, RL C h true ds cs → ∀ c ∈ cs, c.oneCell' = true
  | [], cs, hr, c, hc => by simp only [RL] at hr; subst hr; simp at hc
  | x :: ds, cs, hr, c, hc => by
    simp only [RL] at hr
    obtain ⟨u, rest, rfl, h1, h2, h3⟩ := hr
    rcases List.mem_cons.1 hc with rfl | hc
    · exact h1 trivial
    · exact RL.one h3 c hc
theorem RL.loose {s : Bool} : ∀ {ds : List D} {cs : List Value}, RL C h s ds cs → RL C h false ds cs
  | [], cs, hr => by simpa [RL] using hr
  | x :: ds, cs, hr => by
    simp only [RL] at hr ⊢
    obtain ⟨u, rest, h0, h1, h2, h3⟩ := hr
    exact ⟨u, rest, h0, by simp, h2, RL.loose h3⟩
theorem RL.append {s : Bool} : ∀ {ds es : List D} {cs bs : List Value}, RL C h s ds cs → RL C h s es bs → RL C h s (ds ++ es) (cs ++ bs)
  | [], es, cs, bs, hr, hb => by simp only [RL] at hr; subst hr; simpa using hb
  | x :: ds, es, cs, bs, hr, hb => by
    simp only [RL] at hr
    obtain ⟨u, rest, rfl, h1, h2, h3⟩ := hr
    simp only [List.cons_append, RL]
    exact ⟨u, rest ++ bs, rfl, h1, h2, RL.append h3 hb⟩
theorem RL.take {s : Bool} : ∀ {ds : List D} {cs : List Value} (k : Nat), RL C h s ds cs → RL C h s (ds.take k) (cs.take k)
  | [], cs, k, hr => by simp only [RL] at hr; subst hr; simp [RL]
  | x :: ds, cs, 0, hr => by simp [RL]
  | x :: ds, cs, k + 1, hr => by
    simp only [RL] at hr
    obtain ⟨u, rest, rfl, h1, h2, h3⟩ := hr
    simp only [List.take_succ_cons, RL]
    exact ⟨u, rest.take k, rfl, h1, h2, RL.take k h3⟩
theorem RL.drop {s : Bool} : ∀ {ds : List D} {cs : List Value} (k : Nat), RL C h s ds cs → RL C h s (ds.drop k) (cs.drop k)
  | [], cs, k, hr => by simp only [RL] at hr; subst hr; simp [RL]
  | x :: ds, cs, 0, hr => by simpa using hr
  | x :: ds, cs, k + 1, hr => by
    simp only [RL] at hr
    obtain ⟨u, rest, rfl, h1, h2, h3⟩ := hr
    simpa using RL.drop k h3
theorem RL.nil {s : Bool} : RL C h s [] [] := by simp [RL]
theorem RL.cons {s : Bool} {d : D} {u : Value} {ds : List D} {cs : List Value} (h1 : s = true → u.oneCell' = true) (h2 : R C h d u) (h3 : RL C h s ds cs) : RL C h s (d :: ds) (u :: cs) := by
  simp only [RL]; exact ⟨u, cs, rfl, h1, h2, h3⟩
theorem RL.cons_inv {s : Bool} {d : D} {ds : List D} {cs : List Value} (hr : RL C h s (d :: ds) cs) : ∃ u rest, cs = u :: rest ∧ (s = true → u.oneCell' = true) ∧ R C h d u ∧ RL C h s ds rest := by
  simpa only [RL] using hr
theorem RL.nil_inv {s : Bool} {cs : List Value} (hr : RL C h s [] cs) : cs = [] := by simpa only [RL] using hr

theorem RE.length {size : Nat} : ∀ {ds : List D} {cs : List Value}, RE C h size ds cs → cs.length = ds.length * size
  | [], cs, hr => by simp only [RE] at hr; subst hr; simp
  | d :: ds, cs, hr => by
    simp only [RE] at hr
    obtain ⟨u, rest, rfl, h1, _, _, h3⟩ := hr
    simp [RE.length h3, h1, Nat.add_mul, Nat.add_comm]
theorem RE.append {size : Nat} : ∀ {ds es : List D} {cs bs : List Value}, RE C h size ds cs → RE C h size es bs → RE C h size (ds ++ es) (cs ++ bs)
  | [], es, cs, bs, hr, hb => by simp only [RE] at hr; subst hr; simpa using hb
  | x :: ds, es, cs, bs, hr, hb => by
    simp only [RE] at hr
    obtain ⟨u, rest, rfl, h1, h2, h3, h4⟩ := hr
    simp only [List.cons_append, RE]
    exact ⟨u, rest ++ bs, by simp [List.append_assoc], h1, h2, h3, RE.append h4 hb⟩
theorem RE.drop {size : Nat} : ∀ {ds : List D} {cs : List Value} (k : Nat), RE C h size ds cs → RE C h size (ds.drop k) (cs.drop (k * size))
  | [], cs, k, hr => by simp only [RE] at hr; subst hr; simp [RE]
  | x :: ds, cs, 0, hr => by simpa using hr
  | x :: ds, cs, k + 1, hr => by
    simp only [RE] at hr
    obtain ⟨u, rest, rfl, h1, h2, h3, h4⟩ := hr
    have : (u.cells.toList ++ rest).drop ((k + 1) * size) = rest.drop (k * size) := by
      rw [List.drop_append]
      have e1 : u.cells.toList.drop ((k + 1) * size) = [] := List.drop_of_length_le (by simp [h1, Nat.add_mul])
      rw [e1]
      simp [h1, Nat.add_mul]
    rw [this]
    simpa using RE.drop k h4
theorem RE.take {size : Nat} : ∀ {ds : List D} {cs : List Value} (k : Nat), RE C h size ds cs → RE C h size (ds.take k) (cs.take (k * size))
  | [], cs, k, hr => by simp only [RE] at hr; subst hr; simp [RE]
  | x :: ds, cs, 0, hr => by simp [RE]
  | x :: ds, cs, k + 1, hr => by
    simp only [RE] at hr
    obtain ⟨u, rest, rfl, h1, h2, h3, h4⟩ := hr
    have : (u.cells.toList ++ rest).take ((k + 1) * size) = u.cells.toList ++ rest.take (k * size) := by
      rw [List.take_append]
      have e1 : u.cells.toList.take ((k + 1) * size) = u.cells.toList := List.take_of_length_le (by simp [h1, Nat.add_mul])
      rw [e1]
      simp [h1, Nat.add_mul]
    rw [this]
    simp only [List.take_succ_cons, RE]
    exact ⟨u, _, rfl, h1, h2, h3, RE.take k h4⟩
theorem RE.one {size : Nat} : ∀ {ds : List D} {cs : List Value}, RE C h size ds cs → ∀ c ∈ cs, c.oneCell' = true
  | [], cs, hr, c, hc => by simp only [RE] at hr; subst hr; simp at hc
  | x :: ds, cs, hr, c, hc => by
    simp only [RE] at hr
    obtain ⟨u, rest, rfl, h1, h2, h3, h4⟩ := hr
    rcases List.mem_append.1 hc with hc | hc
    · exact h2 c hc
    · exact RE.one h4 c hc
theorem RE.nil {size : Nat} : RE C h size [] [] := by simp [RE]
theorem RE.cons {size : Nat} {d : D} {u : Value} {ds : List D} {cs : List Value} (h1 : u.cells.size = size) (h2 : ∀ c ∈ u.cells.toList, c.oneCell' = true) (h3 : R C h d u) (h4 : RE C h size ds cs) :
    RE C h size (d :: ds) (u.cells.toList ++ cs) := by
  simp only [RE]; exact ⟨u, cs, rfl, h1, h2, h3, h4⟩
/-- An element, and what lies ahead of it and behind. -/
theorem RE.at {size : Nat} : ∀ {ds : List D} {cs : List Value} (k : Nat) {d : D}, RE C h size ds cs → ds[k]? = some d →
    ∃ u, R C h d u ∧ u.cells.size = size ∧ (∀ c ∈ u.cells.toList, c.oneCell' = true) ∧ cs = cs.take (k * size) ++ (u.cells.toList ++ cs.drop (k * size + size)) ∧
      RE C h size (ds.take k) (cs.take (k * size)) ∧ RE C h size (ds.drop (k + 1)) (cs.drop (k * size + size))
  | [], cs, k, d, hr, hk => by simp at hk
  | x :: ds, cs, 0, d, hr, hk => by
    simp only [RE] at hr
    obtain ⟨u, rest, rfl, h1, h2, h3, h4⟩ := hr
    simp only [List.getElem?_cons_zero, Option.some.injEq] at hk
    subst hk
    refine ⟨u, h3, h1, h2, ?_, ?_, ?_⟩
    · simp [← h1]
    · simp [RE]
    · simp [← h1] at h4 ⊢; exact h4
  | x :: ds, cs, k + 1, d, hr, hk => by
    have hr0 := hr
    simp only [RE] at hr
    obtain ⟨u, rest, rfl, h1, h2, h3, h4⟩ := hr
    simp only [List.getElem?_cons_succ] at hk
    obtain ⟨v, hv, h5, h6, h7, h8, h9⟩ := RE.at k h4 hk
    have t1 := RE.take (k + 1) hr0
    have t2 := RE.drop (k + 1 + 1) hr0
    refine ⟨v, hv, h5, h6, ?_, by simpa using t1, by rw [← Nat.succ_mul (k + 1) size]; simpa using t2⟩
    have e1 : (u.cells.toList ++ rest).take ((k + 1) * size) = u.cells.toList ++ rest.take (k * size) := by
      rw [List.take_append]
      have e1 : u.cells.toList.take ((k + 1) * size) = u.cells.toList := List.take_of_length_le (by simp [h1, Nat.add_mul])
      rw [e1]
      simp [h1, Nat.add_mul]
    have e2 : (u.cells.toList ++ rest).drop ((k + 1) * size + size) = rest.drop (k * size + size) := by
      rw [List.drop_append]
      have e1 : u.cells.toList.drop ((k + 1) * size + size) = [] := List.drop_of_length_le (by simp [h1, Nat.add_mul])
      rw [e1]
      have : (k + 1) * size + size - u.cells.toList.length = k * size + size := by simp [h1, Nat.add_mul, Nat.add_assoc]; omega
      rw [this]; rfl
    rw [e1, e2]
    conv => lhs; rw [h7]
    simp [List.append_assoc]
end

/-! ### The cells of an abstract value -/
def D.cells? : D → Option (List D)
  | .agg ds => some ds
  | .junk => none
  | .tup _ => none
  | .v x => if x.oneCell' then some [.v x] else none
  | d => some [d]

theorem cells_of_one {u : Value} (h : u.oneCell' = true) : u.cells = #[u] := by cases u <;> simp_all [Value.oneCell', Value.cells]

theorem cells_sound {C : Cx} {h : HS} {d : D} {u : Value} {ds : List D} (hr : R C h d u) (hc : d.cells? = some ds) : RL C h true ds u.cells.toList := by
  have one : ∀ {d : D} {u : Value}, R C h d u → u.oneCell' = true → RL C h true [d] u.cells.toList := fun hr h1 => by
    rw [cells_of_one h1]; exact RL.cons (fun _ => h1) hr RL.nil
  cases d with
  | agg ds' =>
    simp only [D.cells?, Option.some.injEq] at hc
    subst hc
    simp only [R] at hr
    obtain ⟨cs, rfl, h2⟩ := hr
    simpa [Value.cells] using h2
  | junk => simp [D.cells?] at hc
  | tup _ => simp [D.cells?] at hc
  | v x =>
    simp only [D.cells?] at hc
    split at hc
    · simp only [Option.some.injEq] at hc
      subst hc
      refine one hr ?_
      simp only [R] at hr; subst hr; assumption
    · cases hc
  | str s =>
    simp only [D.cells?, Option.some.injEq] at hc; subst hc
    refine one hr ?_
    simp only [R] at hr; obtain ⟨b, rfl, _⟩ := hr; rfl
  | sl hd xs =>
    simp only [D.cells?, Option.some.injEq] at hc; subst hc
    refine one hr ?_
    simp only [R] at hr
    rcases hr with ⟨rfl, _⟩ | ⟨_, b, off, cap, size, cs, rfl, _⟩ <;> rfl
  | own id off n cap =>
    simp only [D.cells?, Option.some.injEq] at hc; subst hc
    refine one hr ?_
    simp only [R] at hr; exact hr.2.1
  | ptr id i off =>
    simp only [D.cells?, Option.some.injEq] at hc; subst hc
    refine one hr ?_
    simp only [R] at hr; exact hr.2.1
  | ep cs =>
    simp only [D.cells?, Option.some.injEq] at hc; subst hc
    refine one hr ?_
    simp only [R] at hr; obtain ⟨b, off, cs, rfl, _⟩ := hr; rfl
  | fn f a b =>
    simp only [D.cells?, Option.some.injEq] at hc; subst hc
    refine one hr ?_
    simp only [R] at hr; obtain ⟨fs, cs, rfl, _⟩ := hr; rfl
  | iface t d =>
    simp only [D.cells?, Option.some.injEq] at hc; subst hc
    refine one hr ?_
    simp only [R] at hr; obtain ⟨x, rfl, _⟩ := hr; rfl
  | map id =>
    simp only [D.cells?, Option.some.injEq] at hc; subst hc
    refine one hr ?_
    simp only [R] at hr; exact hr.2.1
  | it id =>
    simp only [D.cells?, Option.some.injEq] at hc; subst hc
    refine one hr ?_
    simp only [R] at hr; exact hr.2.1
  | yl id =>
    simp only [D.cells?, Option.some.injEq] at hc; subst hc
    refine one hr ?_
    simp only [R] at hr; exact hr.2.1
theorem cells_size {C : Cx} {h : HS} {d : D} {u : Value} {ds : List D} (hr : R C h d u) (hc : d.cells? = some ds) : u.cells.size = ds.length := by
  have := (cells_sound hr hc).length
  simpa using this

/-- A value out of cells: one cell, or so many as a struct or an array. -/
def mkval (n : Option Nat) (cs : List D) : Option D :=
  match n with
  | none => cs.head?
  | some n => if n ≤ cs.length then some (.agg (cs.take n)) else none
end Gv
