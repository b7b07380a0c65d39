/- THE SECOND MACHINE, 1: values, a heap by names, operations, code; all of it plain functions. Own work. -/
import GoSem.Dispatch
set_option linter.unusedSimpArgs false
set_option linter.unusedVariables false
namespace Go.AI

/-! ### a table by numbers -/
inductive Trie (α : Type) where
  | leaf
  | node (v : Option α) (l r : Trie α)

namespace Trie
variable {α : Type}
theorem beq0 {k : Nat} (h : k ≠ 0) : Nat.beq k 0 = false := by
  cases k with
  | zero => exact absurd rfl h
  | succ n => rfl
def get : Trie α → Nat → Option α
  | .leaf, _ => none
  | .node v l r, k => cond (Nat.beq k 0) v (cond (Nat.beq (k % 2) 1) (l.get (k / 2)) (r.get (k / 2 - 1)))
def one : Nat → Nat → Option α → Trie α
  | 0, _, v => .node v .leaf .leaf
  | f + 1, k, v => cond (Nat.beq k 0) (.node v .leaf .leaf)
      (cond (Nat.beq (k % 2) 1) (.node none (one f (k / 2) v) .leaf) (.node none .leaf (one f (k / 2 - 1) v)))
def put : Trie α → Nat → Option α → Trie α
  | .leaf, k, v => one k k v
  | .node u l r, k, v => cond (Nat.beq k 0) (.node v l r) (cond (Nat.beq (k % 2) 1) (.node u (l.put (k / 2) v) r) (.node u l (r.put (k / 2 - 1) v)))

theorem get_one_same (f : Nat) : ∀ (k : Nat) (v : Option α), k ≤ f → (one f k v).get k = v := by
  induction f with
  | zero => intro k v h; obtain rfl : k = 0 := by omega
            simp [one, get]
  | succ f ih =>
    intro k v h
    unfold one
    by_cases h0 : k = 0
    · subst h0; simp [get]
    · have e0 : Nat.beq k 0 = false := beq0 (by omega)
      by_cases h1 : k % 2 = 1
      · have e1 : Nat.beq (k % 2) 1 = true := by rw [h1]; rfl
        simp only [e0, e1, cond, get]
        exact ih _ _ (by omega)
      · have e1 : Nat.beq (k % 2) 1 = false := by rw [show k % 2 = 0 by omega]; rfl
        simp only [e0, e1, cond, get]
        exact ih _ _ (by omega)
theorem get_one_ne (f : Nat) : ∀ (k j : Nat) (v : Option α), k ≤ f → j ≠ k → (one f k v).get j = none := by
  induction f with
  | zero =>
    intro k j v h hj
    obtain rfl : k = 0 := by omega
    have e0 : Nat.beq j 0 = false := beq0 (by omega)
    simp only [one, get, e0, cond]
    cases Nat.beq (j % 2) 1 <;> rfl
  | succ f ih =>
    intro k j v h hj
    unfold one
    by_cases h0 : k = 0
    · subst h0
      have e0 : Nat.beq j 0 = false := beq0 (by omega)
      simp only [cond, get, e0]
      cases Nat.beq (j % 2) 1 <;> rfl
    · have e0 : Nat.beq k 0 = false := beq0 (by omega)
      by_cases h1 : k % 2 = 1
      · have e1 : Nat.beq (k % 2) 1 = true := by rw [h1]; rfl
        simp only [e0, e1, cond, get]
        by_cases hj0 : j = 0
        · subst hj0; rfl
        · have f0 : Nat.beq j 0 = false := beq0 (by omega)
          by_cases hj1 : j % 2 = 1
          · have f1 : Nat.beq (j % 2) 1 = true := by rw [hj1]; rfl
            simp only [f0, f1]
            exact ih _ _ _ (by omega) (by omega)
          · have f1 : Nat.beq (j % 2) 1 = false := by rw [show j % 2 = 0 by omega]; rfl
            simp only [f0, f1]
      · have e1 : Nat.beq (k % 2) 1 = false := by rw [show k % 2 = 0 by omega]; rfl
        simp only [e0, e1, cond, get]
        by_cases hj0 : j = 0
        · subst hj0; rfl
        · have f0 : Nat.beq j 0 = false := beq0 (by omega)
          by_cases hj1 : j % 2 = 1
          · have f1 : Nat.beq (j % 2) 1 = true := by rw [hj1]; rfl
            simp only [f0, f1]
          · have f1 : Nat.beq (j % 2) 1 = false := by rw [show j % 2 = 0 by omega]; rfl
            simp only [f0, f1]
            exact ih _ _ _ (by omega) (by omega)
theorem get_put (t : Trie α) : ∀ (k j : Nat) (v : Option α), (t.put k v).get j = if j = k then v else t.get j := by
  induction t with
  | leaf =>
    intro k j v
    simp only [put]
    by_cases h : j = k
    · subst h; rw [if_pos rfl]; exact get_one_same _ _ _ (Nat.le_refl _)
    · rw [if_neg h, get_one_ne _ _ _ _ (Nat.le_refl _) h]; rfl
  | node u l r ihl ihr =>
    intro k j v
    unfold put
    by_cases h0 : k = 0
    · subst h0
      simp only [cond, get]
      by_cases hj : j = 0
      · subst hj; rfl
      · have f0 : Nat.beq j 0 = false := beq0 (by omega)
        simp only [f0, if_neg hj]
    · have e0 : Nat.beq k 0 = false := beq0 (by omega)
      by_cases h1 : k % 2 = 1
      · have e1 : Nat.beq (k % 2) 1 = true := by rw [h1]; rfl
        simp only [e0, e1, cond, get]
        by_cases hj0 : j = 0
        · subst hj0; rw [if_neg (by omega)]
        · have f0 : Nat.beq j 0 = false := beq0 (by omega)
          by_cases hj1 : j % 2 = 1
          · have f1 : Nat.beq (j % 2) 1 = true := by rw [hj1]; rfl
            simp only [f0, f1, ihl]
            by_cases h : j = k
            · subst h; simp
            · rw [if_neg h, if_neg (by omega)]
          · have f1 : Nat.beq (j % 2) 1 = false := by rw [show j % 2 = 0 by omega]; rfl
            simp only [f0, f1]
            rw [if_neg (by omega)]
      · have e1 : Nat.beq (k % 2) 1 = false := by rw [show k % 2 = 0 by omega]; rfl
        simp only [e0, e1, cond, get]
        by_cases hj0 : j = 0
        · subst hj0; rw [if_neg (by omega)]
        · have f0 : Nat.beq j 0 = false := beq0 (by omega)
          by_cases hj1 : j % 2 = 1
          · have f1 : Nat.beq (j % 2) 1 = true := by rw [hj1]; rfl
            simp only [f0, f1]
            rw [if_neg (by omega)]
          · have f1 : Nat.beq (j % 2) 1 = false := by rw [show j % 2 = 0 by omega]; rfl
            simp only [f0, f1, ihr]
            by_cases h : j = k
            · subst h; simp
            · rw [if_neg h, if_neg (by omega)]
end Trie

/-! ### values -/
inductive Id where
  | o (n : Nat)
  | n (n : Nat)
  deriving DecidableEq

inductive AV where
  | bool (b : Bool)
  | int (k : IntKind) (n : Int)
  | str (s : ByteArray)
  | nilptr
  | ptr (i : Id) (off : Nat)
  | nilslc
  | slc (i : Id) (off len cap : Nat) (tail : Bool)
  | nilmap
  | map (i : Id)
  | func (f : FuncId) (first captured : List AV)
  | nilfunc
  | iface (t : TypeId) (v : AV)
  | niliface
  | agg (cs : List AV)
  | tuple (vs : List AV)
  | junk
  /-- of the data machine alone: a list; an address in a list's row; an address in a block of rows -/
  | lst (rs : List (List AV))
  | fptr (cs : List AV) (off : Nat)
  | eptr (k ver row off : Nat)

namespace AV
def undef : AV := .tuple []
def cells : AV → List AV
  | .agg cs => cs
  | v => [v]
/-- The value of one cell. -/
def one : AV → Bool
  | .agg _ | .tuple _ | .junk => false
  | _ => true
def ok : AV → Bool
  | .junk => false
  | _ => true
end AV

 mutual
def AV.same : AV → AV → Bool
  | .bool a, .bool b => a == b
  | .int k a, .int j b => decide (k = j) && decide (a = b)
  | .str a, .str b => decide (a.data.toList = b.data.toList)
  | .nilptr, .nilptr => true
  | .ptr i o, .ptr j p => decide (i = j) && Nat.beq o p
  | .nilslc, .nilslc => true
  | .slc i o l c t, .slc j p m d u => decide (i = j) && Nat.beq o p && Nat.beq l m && Nat.beq c d && (t == u)
  | .nilmap, .nilmap => true
  | .map i, .map j => decide (i = j)
  | .func f a b, .func g c d => Nat.beq f g && AV.sames a c && AV.sames b d
  | .nilfunc, .nilfunc => true
  | .iface t v, .iface u w => Nat.beq t u && AV.same v w
  | .niliface, .niliface => true
  | .agg a, .agg b => AV.sames a b
  | .tuple a, .tuple b => AV.sames a b
  | _, _ => false
 termination_by structural x => x
def AV.sames : List AV → List AV → Bool
  | [], [] => true
  | a :: l, b :: m => AV.same a b && AV.sames l m
  | _, _ => false
 termination_by structural x => x
end

/-! ### the heap -/
inductive ABlk where
  | cells (cs : List AV) (s : Nat)
  | map (es : List (AV × AV × Nat)) (clock : Nat)
  | iter (m : Option Id) (since : Nat) (seen : List Nat) (stepped : Nat)

structure AHeap where
  old : Nat → Option ABlk
  new : Trie ABlk
  next : Nat

namespace AHeap
def get (H : AHeap) : Id → Option ABlk
  | .o n => H.old n
  | .n k => cond (Nat.blt k H.next) (H.new.get k) none
def alloc (H : AHeap) (b : ABlk) : AHeap := { H with new := H.new.put H.next (some b), next := H.next + 1 }
def setN (H : AHeap) (k : Nat) (b : ABlk) : AHeap := { H with new := H.new.put k (some b) }
def kill (H : AHeap) (k : Nat) : AHeap := { H with new := H.new.put k none }
end AHeap

/-- n cells from place o on. -/
def seg (cs : List AV) (o n : Nat) : Option (List AV) := if o + n ≤ cs.length then some ((cs.drop o).take n) else none
/-- Cells laid over others from place o on. -/
def lay {α : Type} (cs : List α) (o : Nat) (vs : List α) : List α := cs.take o ++ vs ++ cs.drop (o + vs.length)

def AHeap.loadN (H : AHeap) (i : Id) (o n : Nat) : Option (List AV) :=
  if n = 0 then some [] else match H.get i with
  | some (.cells cs _) => seg cs o n
  | _ => none
def AHeap.storeN (H : AHeap) (i : Id) (o : Nat) (vs : List AV) : Option AHeap :=
  if vs = [] then some H else match i with
  | .o _ => none
  | .n k => match H.get (.n k) with
    | some (.cells cs s) => if o + vs.length ≤ cs.length && vs.all AV.one then some (H.setN k (.cells (lay cs o vs) s)) else none
    | _ => none

/-! ### operations -/
inductive X where
  | t (n : Nat)
  | c (v : AV)

/-- A cell that is compared. -/
inductive CK where
  | bool | int | str
  deriving DecidableEq

inductive CmpT where
  | bool | str | ptr | slc | map | func | iface
  /-- a struct, cell by cell -/
  | flat (ks : List CK)

inductive AOp where
  | mv (x : X)
  | pick (c a b : X)
  | alloc (cs : List AV)
  | box (x : X)
  | build (z : List AV) (parts : List (Nat × Nat × X))
  | bslice (esz len : Nat) (z : List AV) (parts : List (Nat × Nat × X))
  | load (n : Option Nat) (a : X)
  | store (n : Nat) (a x : X)
  | nilCheck (x : X)
  | bin (op : BinOp) (x y : X)
  | cmp (neg : Bool) (t : CmpT) (x y : X)
  | un (op : UnOp) (x : X)
  | conv (k : IntKind) (x : X)
  | mkIface (t : TypeId) (x : X)
  | mkFunc (f : FuncId) (first captured : List X)
  | mkMap
  | mkSlice (esz bytes : Nat) (z : List AV) (l c : X)
  | slice (esz : Nat) (x : X) (lo hi mx : Option X)
  | fieldAddr (off : Nat) (x : X)
  | field (off : Nat) (n : Option Nat) (x : X)
  | idxAddr (esz : Nat) (x i : X)
  | idxAddrA (esz len : Nat) (x i : X)
  | index (esz len : Nat) (n : Option Nat) (x i : X)
  | lookup (z : AV) (kn : List CK) (ag : Bool) (m k : X) (ok : Bool)
  | mapSet (kn : List CK) (ag : Bool) (m k v : X)
  | mapEntry (z : AV) (kn : List CK) (ag : Bool) (m k : X)
  | entryStore (m s v : X)
  | extract (x : X) (i : Nat)
  | typeAssert (x : X) (t : TypeId) (z : AV) (ok : Bool)
  | call (f : X) (args : List X)
  | lenS (x : X)
  | lenT (x : X)
  | lenM (x : X)
  | lenA (n : Nat)
  | append (esz bytes : Nat) (z : List AV) (s x : X)
  | copy (esz : Nat) (d s : X)
  | clear (z : List AV) (x : X)
  | delete (kn : List CK) (ag : Bool) (m k : X)
  | mx (a b : X)
  | mn (a b : X)
  | bad

structure AOper where
  dst : Option Nat
  op : AOp
  guard : Option (Nat × Bool)

/-- An operation of a drawn region: itself, and the reads that are to tell the same behind it. -/
structure DOper where
  o : AOper
  re : List AOper

inductive ACode where
  | skip
  | region (ops : List AOper)
  | regionD (ops : List DOper)
  | seq (a b : ACode)
  | cond (c : X) (a b : ACode)
  | block (id : Nat) (b : ACode)
  | loop (b : ACode)
  | exit (id : Nat)
  | ret
  | bad

/-- A result: a slot, or what lies at the address in one. -/
inductive RV where
  | t (n : Nat)
  | ld (n : Option Nat) (a : Nat)

structure AFunc where
  ntmps : Nat
  results : List RV
  body : ACode

structure St where
  T : Trie AV
  H : AHeap

def St.get (T : Trie AV) (t : Nat) : AV := (T.get t).getD .undef
def ev (T : Trie AV) : X → AV
  | .t n => St.get T n
  | .c v => v
def St.put (s : St) (d : Option Nat) (v : AV) : St :=
  match d with
  | some d => { s with T := s.T.put d (some v) }
  | none => s

/-! ### what each operation comes to -/
def intBits (op : BinOp) (k : IntKind) (x y : Int) : Option AV :=
  let a := BitVec.ofInt k.bits x
  let b := BitVec.ofInt k.bits y
  match op with
  | .and => some (.int k (k.wrap (a &&& b).toNat))
  | .or => some (.int k (k.wrap (a ||| b).toNat))
  | .xor => some (.int k (k.wrap (a ^^^ b).toNat))
  | .andNot => some (.int k (k.wrap (a &&& ~~~b).toNat))
  | _ => none
def binInt (op : BinOp) (k : IntKind) (a b : Int) : Option AV :=
  match op with
  | .add => some (.int k (k.wrap (a + b)))
  | .sub => some (.int k (k.wrap (a - b)))
  | .mul => some (.int k (k.wrap (a * b)))
  | .quo => if b = 0 then none else some (.int k (k.wrap (a.tdiv b)))
  | .rem => if b = 0 then none else some (.int k (a.tmod b))
  | .and => intBits .and k a b
  | .or => intBits .or k a b
  | .xor => intBits .xor k a b
  | .andNot => intBits .andNot k a b
  | .eql => some (.bool (a == b))
  | .neq => some (.bool (a != b))
  | .lss => some (.bool (decide (a < b)))
  | .leq => some (.bool (decide (a ≤ b)))
  | .gtr => some (.bool (decide (a > b)))
  | .geq => some (.bool (decide (a ≥ b)))
  | _ => none
def binShift (op : BinOp) (k : IntKind) (a : Int) (b : Int) : Option AV :=
  if b < 0 then none else
  match op with
  | .shl => some (.int k (k.wrap (a * 2 ^ (min b.toNat k.bits))))
  | .shr => some (.int k (a.fdiv (2 ^ (min b.toNat k.bits))))
  | _ => none
def isShift : BinOp → Bool
  | .shl | .shr => true
  | _ => false
def binA (op : BinOp) (x y : AV) : Option AV :=
  match x, y with
  | .int k a, .int j b => if isShift op then binShift op k a b else if k = j then binInt op k a b else none
  | _, _ => none
def unA (op : UnOp) (x : AV) : Option AV :=
  match op, x with
  | .neg, .int k n => some (.int k (k.wrap (0 - n)))
  | .xor, .int k n => intBits .xor k (if k.signed then -1 else k.max) n
  | .not, .bool b => some (.bool !b)
  | _, _ => none
/-- Two cells of bool, int or string. -/
def cellEq : CK → AV → AV → Option Bool
  | .bool, .bool a, .bool b => some (a == b)
  | .int, .int k a, .int j b => if k = j then some (a == b) else none
  | .str, .str a, .str b => some (a.toList == b.toList)
  | _, _, _ => none
def cellsEq : List CK → List AV → List AV → Option Bool
  | [], [], [] => some true
  | k :: ks, a :: l, b :: m => match cellEq k a b with
    | some x => match cellsEq ks l m with
      | some y => some (x && y)
      | none => none
    | none => none
  | _, _, _ => none
def cmpOp (t : CmpT) (x y : AV) : Option Bool :=
  match t, x, y with
  | .bool, .bool a, .bool b => some (a == b)
  | .str, .str a, .str b => some (a.toList == b.toList)
  | .ptr, .nilptr, .nilptr => some true
  | .ptr, .nilptr, .ptr _ _ => some false
  | .ptr, .ptr _ _, .nilptr => some false
  | .slc, .nilslc, .nilslc => some true
  | .slc, .nilslc, .slc _ _ _ _ _ => some false
  | .slc, .slc _ _ _ _ _, .nilslc => some false
  | .map, .nilmap, .nilmap => some true
  | .map, .nilmap, .map _ => some false
  | .map, .map _, .nilmap => some false
  | .func, .nilfunc, .nilfunc => some true
  | .func, .nilfunc, .func _ _ _ => some false
  | .func, .func _ _ _, .nilfunc => some false
  | .iface, .niliface, .niliface => some true
  | .iface, .niliface, .iface _ _ => some false
  | .iface, .iface _ _, .niliface => some false
  | .flat ks, .agg a, .agg b => cellsEq ks a b
  | _, _, _ => none
/-- Parts laid into zero cells. -/
def fill (T : Trie AV) : List AV → List (Nat × Nat × X) → Option (List AV)
  | cs, [] => some cs
  | cs, (off, n, x) :: r =>
    let v := (ev T x).cells
    if (ev T x).ok = true ∧ v.length = n ∧ off + n ≤ cs.length then fill T (lay cs off v) r else none
def partA (cs : List AV) (off : Nat) : Option Nat → Option AV
  | none => cs[off]?
  | some n => (seg cs off n).map .agg
def asNat (v : AV) : Option Nat :=
  match v with
  | .int _ n => if 0 ≤ n then some n.toNat else none
  | _ => none
/-- The entry of a map that has a key. -/
def aggV : AV → Bool
  | .agg _ => true
  | _ => false
def findKey (ks : List CK) (k : AV) : List (AV × AV × Nat) → Nat → Option (Option (Nat × AV))
  | [], _ => some none
  | (q, v, _) :: es, i =>
    if aggV q = aggV k then
      match cellsEq ks k.cells q.cells with
      | some true => some (some (i, v))
      | some false => findKey ks k es (i + 1)
      | none => none
    else none
def kindsOk : List CK → List AV → Bool
  | [], [] => true
  | .bool :: ks, .bool _ :: l => kindsOk ks l
  | .int :: ks, .int _ _ :: l => kindsOk ks l
  | .str :: ks, .str _ :: l => kindsOk ks l
  | _, _ => false
def keyOk (ks : List CK) (agg : Bool) (k : AV) : Bool := (aggV k == agg) && kindsOk ks k.cells
def bound (x : AV) (y : Nat) : Option Nat :=
  match x with
  | .int _ n => if 0 ≤ n ∧ n ≤ y then some n.toNat else none
  | _ => none
def bnd (T : Trie AV) (x : Option X) (y d : Nat) : Option Nat :=
  match x with
  | some v => bound (ev T v) y
  | none => some d
/-- (l, h, m) of a cut. -/
def bnds (T : Trie AV) (lo hi mx : Option X) (len cap : Nat) : Option (Nat × Nat × Nat) :=
  match bnd T mx cap cap with
  | none => none
  | some m => match bnd T hi m len with
    | none => none
    | some h => match bnd T lo h 0 with
      | none => none
      | some l => some (l, h, m)
def sliceOp (esz : Nat) (T : Trie AV) (x : AV) (lo hi mx : Option X) : Option AV :=
  match x with
  | .nilslc => (bnds T lo hi mx 0 0).map fun _ => .nilslc
  | .slc i off len cap tail => (bnds T lo hi mx len cap).map fun b => .slc i (off + b.1 * esz) (b.2.1 - b.1) (b.2.2 - b.1) (tail && mx.isNone)
  | _ => none
def rows (H : AHeap) (esz n : Nat) : AV → Option (List AV)
  | .nilslc => if n = 0 then some [] else none
  | .slc i off _ _ _ => H.loadN i off (n * esz)
  | _ => none
def lenOf : AV → Option Nat
  | .nilslc => some 0
  | .slc _ _ n _ _ => some n
  | _ => none
def reachB : Nat := 140737488355328
/-- A row that grows beyond what is known of it. -/
def growOp (esz : Nat) (H : AHeap) (i : Id) (off len cap : Nat) (tail : Bool) (n : Nat) (old new : List AV) : Option (AV × AHeap) :=
  if tail then
    match i with
    | .n k =>
      match H.get (.n k) with
      | some (.cells cs s) =>
        if s = esz ∧ off + cap * esz = cs.length then
          some (.slc (.n H.next) 0 (len + n) (len + n) true, (H.kill k).alloc (.cells (old ++ new) esz))
        else none
      | _ => none
    | .o _ => none
  else some (.slc (.n H.next) 0 (len + n) (len + n) true, H.alloc (.cells (old ++ new) esz))
def appendOp (esz bytes : Nat) (H : AHeap) (s x : AV) : Option (AV × AHeap) :=
  match lenOf x with
  | none => none
  | some n => match rows H esz n x with
    | none => none
    | some new =>
      if new.all AV.one = true then
        match s with
        | .nilslc =>
          if n = 0 then some (.nilslc, H)
          else if n * bytes ≤ reachB ∧ n ≤ reachB then some (.slc (.n H.next) 0 n n true, H.alloc (.cells new esz)) else none
        | .slc i off len cap tail =>
          if len + n ≤ cap then
            match H.storeN i (off + len * esz) new with
            | some H' => some (.slc i off (len + n) cap tail, H')
            | none => none
          else if (len + n) * bytes ≤ reachB ∧ len + n ≤ reachB then
            match H.loadN i off (len * esz) with
            | some old => growOp esz H i off len cap tail n old new
            | none => none
          else none
        | _ => none
      else none
def zeros (z : List AV) (n : Nat) : List AV := (List.replicate n z).flatten

/-- What an operation that calls nobody comes to. -/
def opF (o : AOp) (T : Trie AV) (H : AHeap) : Option (AV × AHeap) :=
  match o with
  | .mv x => some (ev T x, H)
  | .pick c a b => match ev T c with
    | .bool t => some (if t then ev T a else ev T b, H)
    | _ => none
  | .alloc cs => some (.ptr (.n H.next) 0, H.alloc (.cells cs 0))
  | .box x => if (ev T x).ok then some (.ptr (.n H.next) 0, H.alloc (.cells (ev T x).cells 0)) else none
  | .build z parts => (fill T z parts).map fun cs => (.agg cs, H)
  | .bslice _ len z parts => (fill T z parts).map fun cs => (.slc (.n H.next) 0 len len false, H.alloc (.cells cs 0))
  | .load none a => match ev T a with
    | .ptr i o => match H.loadN i o 1 with
      | some [v] => some (v, H)
      | _ => none
    | _ => none
  | .load (some n) a => match ev T a with
    | .ptr i o => (H.loadN i o n).map fun cs => (.agg cs, H)
    | _ => none
  | .store n a x => match ev T a with
    | .ptr i o => if (ev T x).ok = true ∧ (ev T x).cells.length = n then (H.storeN i o (ev T x).cells).map fun H' => (.undef, H') else none
    | _ => none
  | .nilCheck x => match ev T x with
    | .ptr i o => some (.ptr i o, H)
    | .func f a b => some (.func f a b, H)
    | _ => none
  | .bin op x y => (binA op (ev T x) (ev T y)).map fun v => (v, H)
  | .cmp neg t x y => (cmpOp t (ev T x) (ev T y)).map fun b => (.bool (if neg then !b else b), H)
  | .un op x => (unA op (ev T x)).map fun v => (v, H)
  | .conv k x => match ev T x with
    | .int _ n => some (.int k (k.wrap n), H)
    | _ => none
  | .mkIface t x => some (.iface t (ev T x), H)
  | .mkFunc f a b => some (.func f (a.map (ev T)) (b.map (ev T)), H)
  | .mkMap => some (.map (.n H.next), H.alloc (.map [] 0))
  | .mkSlice _ bytes z l c => match ev T l, ev T c with
    | .int _ l, .int _ c => if 0 ≤ l ∧ l ≤ c ∧ c * bytes ≤ reachB ∧ c ≤ reachB then
        some (.slc (.n H.next) 0 l.toNat c.toNat false, H.alloc (.cells (zeros z c.toNat) 0)) else none
    | _, _ => none
  | .slice esz x lo hi mx => (sliceOp esz T (ev T x) lo hi mx).map fun v => (v, H)
  | .fieldAddr off x => match ev T x with
    | .ptr i o => some (.ptr i (o + off), H)
    | _ => none
  | .field off n x => match ev T x with
    | .agg cs => (partA cs off n).map fun v => (v, H)
    | _ => none
  | .idxAddr esz x i => match ev T x, ev T i with
    | .slc j off len _ _, .int _ n => if 0 ≤ n ∧ n < len then some (.ptr j (off + n.toNat * esz), H) else none
    | _, _ => none
  | .idxAddrA esz len x i => match ev T x, ev T i with
    | .ptr j off, .int _ n => if 0 ≤ n ∧ n < len then some (.ptr j (off + n.toNat * esz), H) else none
    | _, _ => none
  | .index esz len n x i => match ev T x, ev T i with
    | .agg cs, .int _ k => if 0 ≤ k ∧ k < len then (partA cs (k.toNat * esz) n).map fun v => (v, H) else none
    | _, _ => none
  | .lookup z kn ag m k ok =>
    if keyOk kn ag (ev T k) then
      let es := match ev T m with
        | .nilmap => some []
        | .map i => match H.get i with | some (.map es _) => some es | _ => none
        | _ => none
      match es with
      | none => none
      | some es => match findKey kn (ev T k) es 0 with
        | none => none
        | some r =>
          let (v, b) := match r with | some (_, v) => (v, true) | none => (z, false)
          some (if ok then .tuple [v, .bool b] else v, H)
    else none
  | .mapSet kn ag m k v =>
    if keyOk kn ag (ev T k) then match ev T m with
      | .map (.n i) => match H.get (.n i) with
        | some (.map es c) => match findKey kn (ev T k) es 0 with
          | none => none
          | some (some (j, _)) => some (.undef, H.setN i (.map (es.modify j fun e => (ev T k, ev T v, e.2.2)) c))
          | some none => some (.undef, H.setN i (.map (es ++ [(ev T k, ev T v, c)]) (c + 1)))
        | _ => none
      | _ => none
    else none
  | .mapEntry z kn ag m k =>
    if keyOk kn ag (ev T k) then match ev T m with
      | .map (.n i) => match H.get (.n i) with
        | some (.map es c) => match findKey kn (ev T k) es 0 with
          | none => none
          | some (some (j, v)) => match es[j]? with
            | some e => some (.tuple [v, .int .i64 e.2.2], H.setN i (.map (es.modify j fun e => (ev T k, e.2)) c))
            | none => none
          | some none => some (.tuple [z, .int .i64 c], H.setN i (.map (es ++ [(ev T k, z, c)]) (c + 1)))
        | _ => none
      | _ => none
    else none
  | .entryStore m s v => match ev T m, ev T s with
    | .map (.n i), .int _ b => match H.get (.n i) with
      | some (.map es c) => match es.findIdx? (fun e => decide ((e.2.2 : Int) = b)) with
        | some j => some (.undef, H.setN i (.map (es.modify j fun e => (e.1, ev T v, e.2.2)) c))
        | none => none
      | _ => none
    | _, _ => none
  | .extract x i => match ev T x with
    | .tuple vs => (vs[i]?).map fun v => (v, H)
    | _ => none
  | .typeAssert x t z ok => match ev T x with
    | .niliface => if ok then some (.tuple [z, .bool false], H) else none
    | .iface u v => if u = t then some (if ok then .tuple [v, .bool true] else v, H) else if ok then some (.tuple [z, .bool false], H) else none
    | _ => none
  | .call _ _ => none
  | .bad => none
  | .lenS x => match ev T x with
    | .nilslc => some (.int .i64 0, H)
    | .slc _ _ n _ _ => some (.int .i64 n, H)
    | _ => none
  | .lenT x => match ev T x with
    | .str s => some (.int .i64 s.size, H)
    | _ => none
  | .lenM x => match ev T x with
    | .nilmap => some (.int .i64 0, H)
    | .map i => match H.get i with
      | some (.map es _) => some (.int .i64 es.length, H)
      | _ => none
    | _ => none
  | .lenA n => some (.int .i64 n, H)
  | .append esz bytes _ s x => appendOp esz bytes H (ev T s) (ev T x)
  | .copy esz d s => match lenOf (ev T d), lenOf (ev T s) with
    | some n, some m => match rows H esz (Nat.min m n) (ev T s) with
      | some cs => match ev T d with
        | .slc i off _ _ _ => (H.storeN i off cs).map fun H' => (.int .i64 (Nat.min m n : Nat), H')
        | _ => if cs = [] then some (.int .i64 (Nat.min m n : Nat), H) else none
      | none => none
    | _, _ => none
  | .clear z x => match ev T x with
    | .nilslc => some (.undef, H)
    | .slc i off n _ _ => if n = 0 then some (.undef, H) else (H.storeN i off (zeros z n)).map fun H' => (.undef, H')
    | _ => none
  | .delete kn ag m k =>
    if keyOk kn ag (ev T k) then match ev T m with
      | .map (.n i) => match H.get (.n i) with
        | some (.map es c) => match findKey kn (ev T k) es 0 with
          | none => none
          | some (some (j, _)) => some (.undef, H.setN i (.map (es.eraseIdx j) c))
          | some none => some (.undef, H)
        | _ => none
      | _ => none
    else none
  | .mx a b => match ev T a, ev T b with
    | .int k x, .int _ y => some (.int k (if y > x then y else x), H)
    | _, _ => none
  | .mn a b => match ev T a, ev T b with
    | .int k x, .int _ y => some (.int k (if y < x then y else x), H)
    | _, _ => none

/-! ### how it goes -/
abbrev CallT := FuncId → List AV → AHeap → Option (AV × AHeap)

def opC (call : CallT) (o : AOp) (T : Trie AV) (H : AHeap) : Option (AV × AHeap) :=
  match o with
  | .call f args => match ev T f with
    | .func g a b => call g (a ++ args.map (ev T) ++ b) H
    | _ => none
  | o => opF o T H

/-- Is an operation carried out? (none: that can't be told) -/
def wanted (T : Trie AV) : Option (Nat × Bool) → Option Bool
  | none => some true
  | some (t, b) => match St.get T t with
    | .bool c => some (c == b)
    | .junk => none
    | _ => some false

def runOp (call : CallT) (o : AOper) (s : St) : Option St :=
  match wanted s.T o.guard with
  | some true => match opC call o.op s.T s.H with
    | some (v, H') => some (St.put { s with H := H' } o.dst v)
    | none => none
  | some false => some (s.put o.dst .undef)
  | none => none

def runOps (call : CallT) : List AOper → St → Option St
  | [], s => some s
  | o :: r, s => match runOp call o s with
    | some s' => runOps call r s'
    | none => none

/-- A read tells what it told. -/
def reads (s : St) (o : AOper) : Bool :=
  match wanted s.T o.guard with
  | some true => match opF o.op s.T s.H, o.dst with
    | some (v, _), some d => AV.same v (St.get s.T d)
    | _, _ => false
  | some false => true
  | none => false

def runOpsD (call : CallT) : List DOper → St → Option St
  | [], s => some s
  | d :: r, s => match runOp call d.o s with
    | some s' => if d.re.all (reads s') then runOpsD call r s' else none
    | none => none

inductive Out where
  | normal
  | exit (id : Nat)
  | ret
  deriving DecidableEq

def loopN (f : St → Option (Out × St)) : Nat → St → Option (Out × St)
  | 0, _ => none
  | n + 1, s => match f s with
    | some (.normal, s') => loopN f n s'
    | r => r

def runC (call : CallT) (n : Nat) : ACode → St → Option (Out × St)
  | .skip, s => some (.normal, s)
  | .region ops, s => (runOps call ops s).map fun s' => (.normal, s')
  | .regionD ops, s => (runOpsD call ops s).map fun s' => (.normal, s')
  | .seq a b, s => match runC call n a s with
    | some (.normal, s') => runC call n b s'
    | r => r
  | .cond c a b, s => match ev s.T c with
    | .bool true => runC call n a s
    | .bool false => runC call n b s
    | _ => none
  | .block id b, s => match runC call n b s with
    | some (.exit i, s') => some (if i = id then .normal else .exit i, s')
    | r => r
  | .loop b, s => loopN (runC call n b) n s
  | .exit id, s => some (.exit id, s)
  | .ret, s => some (.ret, s)
  | .bad, _ => none

def putArgs : List AV → Nat → Trie AV → Trie AV
  | [], _, T => T
  | v :: r, k, T => putArgs r (k + 1) (T.put k (some v))

def loadOp (H : AHeap) (a : AV) : Option Nat → Option AV
  | none => match a with
    | .ptr i o => match H.loadN i o 1 with
      | some [v] => some v
      | _ => none
    | _ => none
  | some n => match a with
    | .ptr i o => (H.loadN i o n).map .agg
    | _ => none
def result1 (T : Trie AV) (H : AHeap) : RV → Option AV
  | .t n => some (St.get T n)
  | .ld n a => loadOp H (St.get T a) n
def results (T : Trie AV) (H : AHeap) : List RV → Option (List AV)
  | [] => some []
  | r :: l => match result1 T H r, results T H l with
    | some v, some vs => some (v :: vs)
    | _, _ => none
def result (T : Trie AV) (H : AHeap) (l : List RV) : Option AV :=
  match results T H l with
  | some [v] => some v
  | some vs => some (.tuple vs)
  | none => none

/-- The functions: by their code, or told from outside. -/
structure Env where
  ft : Nat → Option AFunc
  ext : Nat → Option (List AV → AHeap → Option (AV × AHeap))

def callN (E : Env) : Nat → CallT
  | 0, _, _, _ => none
  | n + 1, f, args, H =>
    match E.ext f with
    | some g => g args H
    | none => match E.ft f with
      | none => none
      | some fn => match runC (callN E n) n fn.body ⟨putArgs args 0 .leaf, H⟩ with
        | some (.normal, s) | some (.ret, s) => (result s.T s.H fn.results).map fun v => (v, s.H)
        | _ => none

end Go.AI
