/- THE SECOND MACHINE, 22: rules by which a run of it is told. Own work. -/
import Derived.Test.YtmjhiaedgpikdaaA21
import Derived.IntWalk
set_option linter.unusedSimpArgs false
set_option linter.unusedVariables false
namespace Go.AI

def bindP {α : Type} (x : Option α) (K : α → Prop) : Prop :=
  match x with
  | some a => K a
  | none => False
theorem bindP_some {α : Type} (a : α) (K : α → Prop) : bindP (some a) K = K a := rfl
theorem bindP_none {α : Type} (K : α → Prop) : bindP none K = False := rfl
theorem bindP_ite {α : Type} (c : Prop) [Decidable c] (x : Option α) (K : α → Prop) : bindP (if c then x else none) K = (c ∧ bindP x K) := by
  by_cases h : c <;> simp [h, bindP]
theorem bindP_map {α β : Type} (f : α → β) (x : Option α) (K : β → Prop) : bindP (x.map f) K = bindP x (fun a => K (f a)) := by cases x <;> rfl
theorem bindP_iff {α : Type} {x : Option α} {K : α → Prop} : bindP x K ↔ ∃ a, x = some a ∧ K a := by
  cases x <;> simp [bindP]
theorem bindP_mono {α : Type} {x : Option α} {K L : α → Prop} (h : bindP x K) (hk : ∀ a, K a → L a) : bindP x L := by
  cases x with
  | none => exact h.elim
  | some a => exact hk a h

/-- A row of operations. -/
def RO (call : CallT) (ops : List AOper) (s : St) (K : St → Prop) : Prop := bindP (runOps call ops s) K
def ROD (call : CallT) (ops : List DOper) (s : St) (K : St → Prop) : Prop := bindP (runOpsD call ops s) K
/-- A code. -/
def RC (call : CallT) (n : Nat) (c : ACode) (s : St) (Q : Out → St → Prop) : Prop := bindP (runC call n c s) (fun p => Q p.1 p.2)

section
variable {call : CallT} {n : Nat}
theorem RO_nil (s : St) (K : St → Prop) : RO call [] s K = K s := rfl
theorem RO_cons (o : AOper) (r : List AOper) (T : Trie AV) (H : AHeap) (K : St → Prop) : RO call (o :: r) ⟨T, H⟩ K = bindP (runOp call o ⟨T, H⟩) (fun s' => RO call r s' K) := by
  unfold RO
  simp only [runOps]
  cases runOp call o ⟨T, H⟩ <;> rfl
theorem ROD_nil (s : St) (K : St → Prop) : ROD call [] s K = K s := rfl
theorem ROD_cons (o : AOper) (re : List AOper) (r : List DOper) (T : Trie AV) (H : AHeap) (K : St → Prop) : ROD call (⟨o, re⟩ :: r) ⟨T, H⟩ K = bindP (runOp call o ⟨T, H⟩) (fun s' => re.all (reads s') = true ∧ ROD call r s' K) := by
  unfold ROD
  simp only [runOpsD]
  cases runOp call o ⟨T, H⟩ with
  | none => rfl
  | some s' =>
    simp only [bindP_some]
    cases hb : re.all (reads s') <;> simp [bindP]
theorem ROD_cons0 (o : AOper) (r : List DOper) (T : Trie AV) (H : AHeap) (K : St → Prop) : ROD call (⟨o, []⟩ :: r) ⟨T, H⟩ K = bindP (runOp call o ⟨T, H⟩) (fun s' => ROD call r s' K) := by
  rw [ROD_cons]
  simp
theorem RC_skip (s : St) (Q : Out → St → Prop) : RC call n .skip s Q = Q .normal s := rfl
theorem RC_exit (id : Nat) (s : St) (Q : Out → St → Prop) : RC call n (.exit id) s Q = Q (.exit id) s := rfl
theorem RC_ret (s : St) (Q : Out → St → Prop) : RC call n .ret s Q = Q .ret s := rfl
theorem RC_region (ops : List AOper) (s : St) (Q : Out → St → Prop) : RC call n (.region ops) s Q = RO call ops s (Q .normal) := by
  unfold RC RO
  simp only [runC, bindP_map]
theorem RC_regionD (ops : List DOper) (s : St) (Q : Out → St → Prop) : RC call n (.regionD ops) s Q = ROD call ops s (Q .normal) := by
  unfold RC ROD
  simp only [runC, bindP_map]
/-- What comes behind the first of two. -/
def andThen (call : CallT) (n : Nat) (b : ACode) (Q : Out → St → Prop) : Out → St → Prop
  | .normal, s => RC call n b s Q
  | o, s => Q o s
theorem RC_seq (a b : ACode) (s : St) (Q : Out → St → Prop) : RC call n (.seq a b) s Q = RC call n a s (andThen call n b Q) := by
  unfold RC
  simp only [runC]
  cases runC call n a s with
  | none => rfl
  | some p =>
    obtain ⟨o, s'⟩ := p
    cases o <;> rfl
theorem andThen_normal (b : ACode) (Q : Out → St → Prop) (s : St) : andThen call n b Q .normal s = RC call n b s Q := rfl
theorem andThen_exit (b : ACode) (Q : Out → St → Prop) (id : Nat) (s : St) : andThen call n b Q (.exit id) s = Q (.exit id) s := rfl
theorem andThen_ret (b : ACode) (Q : Out → St → Prop) (s : St) : andThen call n b Q .ret s = Q .ret s := rfl
/-- What comes out of a block. -/
def outOf (id : Nat) (Q : Out → St → Prop) : Out → St → Prop
  | .exit i, s => Q (if i = id then .normal else .exit i) s
  | o, s => Q o s
theorem RC_block (id : Nat) (b : ACode) (s : St) (Q : Out → St → Prop) : RC call n (.block id b) s Q = RC call n b s (outOf id Q) := by
  unfold RC
  simp only [runC]
  cases runC call n b s with
  | none => rfl
  | some p =>
    obtain ⟨o, s'⟩ := p
    cases o <;> rfl
theorem outOf_normal (id : Nat) (Q : Out → St → Prop) (s : St) : outOf id Q .normal s = Q .normal s := rfl
theorem outOf_ret (id : Nat) (Q : Out → St → Prop) (s : St) : outOf id Q .ret s = Q .ret s := rfl
theorem outOf_exit (id i : Nat) (Q : Out → St → Prop) (s : St) : outOf id Q (.exit i) s = Q (if i = id then .normal else .exit i) s := rfl
def condP (v : AV) (A B : Prop) : Prop :=
  match v with
  | .bool true => A
  | .bool false => B
  | _ => False
theorem condP_true (A B : Prop) : condP (.bool true) A B = A := rfl
theorem condP_false (A B : Prop) : condP (.bool false) A B = B := rfl
theorem RC_cond (c : X) (a b : ACode) (T : Trie AV) (H : AHeap) (Q : Out → St → Prop) : RC call n (.cond c a b) ⟨T, H⟩ Q = condP (ev T c) (RC call n a ⟨T, H⟩ Q) (RC call n b ⟨T, H⟩ Q) := by
  unfold RC
  simp only [runC]
  cases ev T c <;> try rfl
  rename_i b
  cases b <;> rfl
/-- What comes out of one round. -/
def roundP (I : Nat → St → Prop) (k : Nat) (Q : Out → St → Prop) : Out → St → Prop
  | .normal, s => ∃ k', k' < k ∧ I k' s
  | o, s => Q o s
theorem roundP_normal (I : Nat → St → Prop) (k : Nat) (Q : Out → St → Prop) (s : St) : roundP I k Q .normal s = ∃ k', k' < k ∧ I k' s := rfl
theorem roundP_exit (I : Nat → St → Prop) (k : Nat) (Q : Out → St → Prop) (i : Nat) (s : St) : roundP I k Q (.exit i) s = Q (.exit i) s := rfl
theorem roundP_ret (I : Nat → St → Prop) (k : Nat) (Q : Out → St → Prop) (s : St) : roundP I k Q .ret s = Q .ret s := rfl
/-- A loop, by what holds at its head, and a number that falls. -/
theorem RC_loop {b : ACode} {s : St} {Q : Out → St → Prop} (I : Nat → St → Prop) (k : Nat) (h0 : I k s) (hk : k < n)
    (step : ∀ (k : Nat) (T : Trie AV) (H : AHeap), I k ⟨T, H⟩ → RC call n b ⟨T, H⟩ (roundP I k Q)) : RC call n (.loop b) s Q := by
  have key : ∀ (m k : Nat) (s : St), k < m → I k s → bindP (loopN (runC call n b) m s) (fun p => Q p.1 p.2) := by
    intro m
    induction m with
    | zero => intro k s h; omega
    | succ m ih =>
      intro k s hk hI
      have h1 := step k s.T s.H hI
      unfold RC at h1
      rw [bindP_iff] at h1
      obtain ⟨⟨o, s'⟩, hr, hn⟩ := h1
      simp only [loopN, hr]
      cases o with
      | normal =>
        obtain ⟨k', hk', hI'⟩ := hn
        exact ih k' s' (by omega) hI'
      | exit id => exact hn
      | ret => exact hn
  exact key n k s hk h0
theorem RC_mono {c : ACode} {s : St} {Q R : Out → St → Prop} (h : RC call n c s Q) (hq : ∀ o s', Q o s' → R o s') : RC call n c s R := bindP_mono h fun p hp => hq p.1 p.2 hp

theorem runOp_go (d : Option Nat) (op : AOp) (T : Trie AV) (H : AHeap) : runOp call ⟨d, op, none⟩ ⟨T, H⟩ = (opC call op T H).map (fun p => St.put ⟨T, p.2⟩ d p.1) := by
  unfold runOp
  simp only [wanted]
  cases opC call op T H with
  | none => rfl
  | some p => obtain ⟨v, H'⟩ := p; rfl
def goIf (c b : Bool) (x : Option St) (y : St) : Option St := if (c == b) = true then x else some y
theorem goIf_tt (x : Option St) (y : St) : goIf true true x y = x := rfl
theorem goIf_ff (x : Option St) (y : St) : goIf false false x y = x := rfl
theorem goIf_tf (x : Option St) (y : St) : goIf true false x y = some y := rfl
theorem goIf_ft (x : Option St) (y : St) : goIf false true x y = some y := rfl
def guardV (v : AV) (b : Bool) (x : Option St) (y : St) : Option St :=
  match v with
  | .bool c => goIf c b x y
  | .junk => none
  | _ => some y
theorem guardV_bool (c b : Bool) (x : Option St) (y : St) : guardV (.bool c) b x y = goIf c b x y := rfl
theorem runOp_guard (d : Option Nat) (op : AOp) (t : Nat) (b : Bool) (T : Trie AV) (H : AHeap) :
    runOp call ⟨d, op, some (t, b)⟩ ⟨T, H⟩ = guardV (St.get T t) b ((opC call op T H).map (fun p => St.put ⟨T, p.2⟩ d p.1)) (St.put ⟨T, H⟩ d .undef) := by
  unfold runOp
  simp only [wanted]
  cases St.get T t <;> try rfl
  rename_i c
  simp only [guardV, goIf]
  cases hc : (c == b) with
  | false => rfl
  | true =>
    simp only [if_true]
    cases opC call op T H with
    | none => rfl
    | some p => obtain ⟨v, H'⟩ := p; rfl
theorem put_some (T : Trie AV) (H : AHeap) (d : Nat) (v : AV) : St.put ⟨T, H⟩ (some d) v = ⟨T.put d (some v), H⟩ := rfl
theorem put_none (T : Trie AV) (H : AHeap) (v : AV) : St.put ⟨T, H⟩ none v = ⟨T, H⟩ := rfl
theorem get_leaf (t : Nat) : St.get (.leaf : Trie AV) t = .undef := rfl
theorem ev_t (T : Trie AV) (t : Nat) : ev T (.t t) = St.get T t := rfl
theorem ev_c (T : Trie AV) (v : AV) : ev T (.c v) = v := rfl


theorem ok_bool (b : Bool) : (AV.bool b).ok = true := rfl
theorem cells_bool (b : Bool) : (AV.bool b).cells = [AV.bool b] := rfl
theorem one_bool (b : Bool) : (AV.bool b).one = true := rfl
theorem ok_int (k : IntKind) (n : Int) : (AV.int k n).ok = true := rfl
theorem cells_int (k : IntKind) (n : Int) : (AV.int k n).cells = [AV.int k n] := rfl
theorem one_int (k : IntKind) (n : Int) : (AV.int k n).one = true := rfl
theorem ok_str (s : ByteArray) : (AV.str s).ok = true := rfl
theorem cells_str (s : ByteArray) : (AV.str s).cells = [AV.str s] := rfl
theorem one_str (s : ByteArray) : (AV.str s).one = true := rfl
theorem ok_nilptr : AV.nilptr.ok = true := rfl
theorem cells_nilptr : AV.nilptr.cells = [AV.nilptr] := rfl
theorem one_nilptr : AV.nilptr.one = true := rfl
theorem ok_ptr (i : Id) (o : Nat) : (AV.ptr i o).ok = true := rfl
theorem cells_ptr (i : Id) (o : Nat) : (AV.ptr i o).cells = [AV.ptr i o] := rfl
theorem one_ptr (i : Id) (o : Nat) : (AV.ptr i o).one = true := rfl
theorem ok_nilslc : AV.nilslc.ok = true := rfl
theorem cells_nilslc : AV.nilslc.cells = [AV.nilslc] := rfl
theorem one_nilslc : AV.nilslc.one = true := rfl
theorem ok_slc (i : Id) (a b c : Nat) (t : Bool) : (AV.slc i a b c t).ok = true := rfl
theorem cells_slc (i : Id) (a b c : Nat) (t : Bool) : (AV.slc i a b c t).cells = [AV.slc i a b c t] := rfl
theorem one_slc (i : Id) (a b c : Nat) (t : Bool) : (AV.slc i a b c t).one = true := rfl
theorem ok_nilmap : AV.nilmap.ok = true := rfl
theorem cells_nilmap : AV.nilmap.cells = [AV.nilmap] := rfl
theorem one_nilmap : AV.nilmap.one = true := rfl
theorem ok_map (i : Id) : (AV.map i).ok = true := rfl
theorem cells_map (i : Id) : (AV.map i).cells = [AV.map i] := rfl
theorem one_map (i : Id) : (AV.map i).one = true := rfl
theorem ok_func (f : FuncId) (a b : List AV) : (AV.func f a b).ok = true := rfl
theorem cells_func (f : FuncId) (a b : List AV) : (AV.func f a b).cells = [AV.func f a b] := rfl
theorem one_func (f : FuncId) (a b : List AV) : (AV.func f a b).one = true := rfl
theorem ok_nilfunc : AV.nilfunc.ok = true := rfl
theorem cells_nilfunc : AV.nilfunc.cells = [AV.nilfunc] := rfl
theorem one_nilfunc : AV.nilfunc.one = true := rfl
theorem ok_iface (t : TypeId) (v : AV) : (AV.iface t v).ok = true := rfl
theorem cells_iface (t : TypeId) (v : AV) : (AV.iface t v).cells = [AV.iface t v] := rfl
theorem one_iface (t : TypeId) (v : AV) : (AV.iface t v).one = true := rfl
theorem ok_niliface : AV.niliface.ok = true := rfl
theorem cells_niliface : AV.niliface.cells = [AV.niliface] := rfl
theorem one_niliface : AV.niliface.one = true := rfl
theorem ok_agg (cs : List AV) : (AV.agg cs).ok = true := rfl
theorem cells_agg (cs : List AV) : (AV.agg cs).cells = cs := rfl
/-! ### each operation -/
def pickF (c a b : AV) : Option AV :=
  match c with
  | .bool t => some (if t = true then a else b)
  | _ => none
theorem pickF_t (a b : AV) : pickF (.bool true) a b = some a := rfl
theorem pickF_f (a b : AV) : pickF (.bool false) a b = some b := rfl
def idxA (esz : Nat) (s v : AV) : Option AV :=
  match s, v with
  | .slc j off len _ _, .int _ n => if 0 ≤ n ∧ n < len then some (.ptr j (off + n.toNat * esz)) else none
  | _, _ => none
def addP (off : Nat) (a : AV) : Option AV :=
  match a with
  | .ptr i o => some (.ptr i (o + off))
  | _ => none
theorem addP_ptr (off : Nat) (i : Id) (o : Nat) : addP off (.ptr i o) = some (.ptr i (o + off)) := rfl
def fieldF (off : Nat) (n : Option Nat) (a : AV) : Option AV :=
  match a with
  | .agg cs => partA cs off n
  | _ => none
theorem fieldF_agg (off : Nat) (n : Option Nat) (cs : List AV) : fieldF off n (.agg cs) = partA cs off n := rfl
def extF (i : Nat) (a : AV) : Option AV :=
  match a with
  | .tuple vs => vs[i]?
  | _ => none
theorem extF_tuple (i : Nat) (vs : List AV) : extF i (.tuple vs) = vs[i]? := rfl
def convF (k : IntKind) (a : AV) : Option AV :=
  match a with
  | .int _ n => some (.int k (k.wrap n))
  | _ => none
theorem convF_int (k j : IntKind) (n : Int) : convF k (.int j n) = some (.int k (k.wrap n)) := rfl
def storeF (H : AHeap) (n : Nat) (a x : AV) : Option AHeap :=
  match a with
  | .ptr i o => if x.ok = true ∧ x.cells.length = n then H.storeN i o x.cells else none
  | _ => none
theorem storeF_ptr (H : AHeap) (n : Nat) (i : Id) (o : Nat) (x : AV) : storeF H n (.ptr i o) x = if x.ok = true ∧ x.cells.length = n then H.storeN i o x.cells else none := rfl
def cmpF (neg : Bool) (t : CmpT) (x y : AV) : Option AV := (cmpOp t x y).map fun b => .bool (if neg = true then !b else b)

section
variable (T : Trie AV) (H : AHeap)
theorem opF_mv (x : X) : opF (.mv x) T H = some (ev T x, H) := rfl
theorem opF_pick (c a b : X) : opF (.pick c a b) T H = (pickF (ev T c) (ev T a) (ev T b)).map fun v => (v, H) := by
  simp only [opF]
  cases ev T c <;> rfl
theorem opF_alloc (cs : List AV) : opF (.alloc cs) T H = some (.ptr (.n H.next) 0, H.alloc (.cells cs 0)) := rfl
theorem opF_box (x : X) : opF (.box x) T H = if (ev T x).ok = true then some (.ptr (.n H.next) 0, H.alloc (.cells (ev T x).cells 0)) else none := rfl
theorem opF_build (z : List AV) (ps : List (Nat × Nat × X)) : opF (.build z ps) T H = (fill T z ps).map fun cs => (.agg cs, H) := rfl
theorem opF_bslice (e l : Nat) (z : List AV) (ps : List (Nat × Nat × X)) : opF (.bslice e l z ps) T H = (fill T z ps).map fun cs => (.slc (.n H.next) 0 l l false, H.alloc (.cells cs 0)) := rfl
theorem opF_load (n : Option Nat) (a : X) : opF (.load n a) T H = (loadOp H (ev T a) n).map fun v => (v, H) := by
  cases n with
  | none =>
    simp only [opF, loadOp]
    cases ev T a <;> try rfl
    rename_i i o
    simp only
    cases H.loadN i o 1 with
    | none => rfl
    | some l => cases l with
      | nil => rfl
      | cons v l => cases l <;> rfl
  | some n =>
    simp only [opF, loadOp]
    cases ev T a <;> try rfl
    simp only [Option.map_map]
    rfl
theorem opF_store (n : Nat) (a x : X) : opF (.store n a x) T H = (storeF H n (ev T a) (ev T x)).map fun G => (.undef, G) := by
  simp only [opF, storeF]
  cases ev T a <;> try rfl
  simp only
  split <;> rfl
theorem opF_bin (op : BinOp) (x y : X) : opF (.bin op x y) T H = (binA op (ev T x) (ev T y)).map fun v => (v, H) := rfl
theorem opF_cmp (neg : Bool) (t : CmpT) (x y : X) : opF (.cmp neg t x y) T H = (cmpF neg t (ev T x) (ev T y)).map fun v => (v, H) := by
  simp only [opF, cmpF, Option.map_map]
  rfl
theorem opF_un (op : UnOp) (x : X) : opF (.un op x) T H = (unA op (ev T x)).map fun v => (v, H) := rfl
theorem opF_conv (k : IntKind) (x : X) : opF (.conv k x) T H = (convF k (ev T x)).map fun v => (v, H) := by
  simp only [opF, convF]
  cases ev T x <;> rfl
theorem opF_mkIface (t : TypeId) (x : X) : opF (.mkIface t x) T H = some (.iface t (ev T x), H) := rfl
theorem opF_mkFunc (f : FuncId) (a b : List X) : opF (.mkFunc f a b) T H = some (.func f (a.map (ev T)) (b.map (ev T)), H) := rfl
theorem opF_mkMap : opF .mkMap T H = some (.map (.n H.next), H.alloc (.map [] 0)) := rfl
theorem opF_slice (e : Nat) (x : X) (lo hi mx : Option X) : opF (.slice e x lo hi mx) T H = (sliceOp e T (ev T x) lo hi mx).map fun v => (v, H) := rfl
theorem opF_fieldAddr (off : Nat) (x : X) : opF (.fieldAddr off x) T H = (addP off (ev T x)).map fun v => (v, H) := by
  simp only [opF, addP]
  cases ev T x <;> rfl
theorem opF_field (off : Nat) (n : Option Nat) (x : X) : opF (.field off n x) T H = (fieldF off n (ev T x)).map fun v => (v, H) := by
  simp only [opF, fieldF]
  cases ev T x <;> rfl
theorem opF_idxAddr (e : Nat) (x i : X) : opF (.idxAddr e x i) T H = (idxA e (ev T x) (ev T i)).map fun v => (v, H) := by
  simp only [opF, idxA]
  cases ev T x <;> try rfl
  cases ev T i <;> try rfl
  simp only
  split <;> rfl
theorem opF_extract (x : X) (i : Nat) : opF (.extract x i) T H = (extF i (ev T x)).map fun v => (v, H) := by
  simp only [opF, extF]
  cases ev T x <;> rfl
theorem opF_lenS (x : X) : opF (.lenS x) T H = (lenOf (ev T x)).map fun n => (.int .i64 n, H) := by
  simp only [opF, lenOf]
  cases ev T x <;> rfl
theorem opF_append (e b : Nat) (z : List AV) (s x : X) : opF (.append e b z s x) T H = appendOp e b H (ev T s) (ev T x) := rfl
end
theorem loadOp_ptr (H : AHeap) (i : Id) (o n : Nat) : loadOp H (.ptr i o) (some n) = (H.loadN i o n).map .agg := rfl
def oneOf : Option (List AV) → Option AV
  | some [v] => some v
  | _ => none
theorem oneOf_some (v : AV) : oneOf (some [v]) = some v := rfl
theorem loadOp_ptr1 (H : AHeap) (i : Id) (o : Nat) : loadOp H (.ptr i o) none = oneOf (H.loadN i o 1) := by
  simp only [loadOp]
  cases H.loadN i o 1 with
  | none => rfl
  | some l => cases l with
    | nil => rfl
    | cons v l => cases l <;> rfl
/-- A call. -/
def callF (call : CallT) (f : AV) (args : List AV) (H : AHeap) : Option (AV × AHeap) :=
  match f with
  | .func g a b => call g (a ++ args ++ b) H
  | _ => none
theorem callF_func (g : FuncId) (a b args : List AV) (H : AHeap) : callF call (.func g a b) args H = call g (a ++ args ++ b) H := rfl
theorem opC_call (f : X) (args : List X) (T : Trie AV) (H : AHeap) : opC call (.call f args) T H = callF call (ev T f) (args.map (ev T)) H := by
  simp only [opC, callF]
  cases ev T f <;> rfl

/-! ### rows -/
/-- Where an element of a row lies. -/
def elemP (s : AV) (off : Nat) : AV :=
  match s with
  | .slc i o _ _ _ => .ptr i (o + off)
  | _ => .junk
/-- A slice whose elements are these. -/
def Row (H : AHeap) (s : AV) (sz : Nat) (xs : List (List AV)) : Prop :=
  (s = .nilslc ∧ xs = []) ∨ ∃ i o cap tail, s = .slc i o xs.length cap tail ∧ xs.length ≤ cap ∧ ∀ j x, xs[j]? = some x → x.length = sz ∧ H.loadN i (o + j * sz) sz = some x
theorem Row.grow {H G : AHeap} {s : AV} {sz : Nat} {xs : List (List AV)} (h : Row H s sz xs) (g : Grow H G) : Row G s sz xs := by
  rcases h with h | ⟨i, o, cap, tail, h1, h2, h3⟩
  · exact .inl h
  · exact .inr ⟨i, o, cap, tail, h1, h2, fun j x hx => ⟨(h3 j x hx).1, loadN_grow g (h3 j x hx).2⟩⟩
section
variable {H : AHeap} {s : AV} {sz : Nat} {xs : List (List AV)}
theorem Row.len (h : Row H s sz xs) : lenOf s = some xs.length := by
  rcases h with ⟨rfl, rfl⟩ | ⟨i, o, cap, tail, rfl, _⟩ <;> rfl
theorem Row.idx (h : Row H s sz xs) {j : Nat} {x : List AV} (hx : xs[j]? = some x) (k : IntKind) : idxA sz s (.int k (j : Int)) = some (elemP s (j * sz)) := by
  have hj := (List.getElem?_eq_some_iff.1 hx).1
  rcases h with ⟨rfl, rfl⟩ | ⟨i, o, cap, tail, rfl, _⟩
  · simp at hj
  · simp only [idxA, elemP]
    rw [if_pos (by omega)]
    simp
theorem Row.load (h : Row H s sz xs) {j : Nat} {x : List AV} (hx : xs[j]? = some x) : loadOp H (elemP s (j * sz)) (some sz) = some (.agg x) := by
  have hj := (List.getElem?_eq_some_iff.1 hx).1
  rcases h with ⟨rfl, rfl⟩ | ⟨i, o, cap, tail, rfl, _, h3⟩
  · simp at hj
  · simp only [elemP, loadOp_ptr, (h3 j x hx).2, Option.map_some]
theorem Row.fld (h : Row H s sz xs) {j : Nat} {x : List AV} (hx : xs[j]? = some x) (off p : Nat) : addP off (elemP s p) = some (elemP s (p + off)) := by
  have hj := (List.getElem?_eq_some_iff.1 hx).1
  rcases h with ⟨rfl, rfl⟩ | ⟨i, o, cap, tail, rfl, _, h3⟩
  · simp at hj
  · simp [elemP, addP, Nat.add_assoc]
theorem seg_of_seg {cs x : List AV} {o n p m : Nat} (h : seg cs o n = some x) (hp : p + m ≤ n) : seg cs (o + p) m = some ((x.drop p).take m) := by
  unfold seg at h ⊢
  split at h
  · rename_i hle
    cases h
    rw [if_pos (by omega)]
    congr 1
    rw [List.drop_take, List.take_take, List.drop_drop]
    congr 1
    omega
  · cases h
theorem loadN_part {H : AHeap} {i : Id} {o n p m : Nat} {x : List AV} (h : H.loadN i o n = some x) (hp : p + m ≤ n) : H.loadN i (o + p) m = some ((x.drop p).take m) := by
  unfold AHeap.loadN at h ⊢
  by_cases hm : m = 0
  · rw [if_pos hm, hm, List.take_zero]
  · rw [if_neg hm]
    rw [if_neg (by omega)] at h
    cases hB : H.get i with
    | none => rw [hB] at h; cases h
    | some B =>
      rw [hB] at h
      cases B with
      | cells cs s => exact seg_of_seg h hp
      | _ => cases h
theorem Row.part (h : Row H s sz xs) {j : Nat} {x : List AV} (hx : xs[j]? = some x) (p m : Nat) (hp : p + m ≤ sz) : loadOp H (elemP s (j * sz + p)) (some m) = some (.agg ((x.drop p).take m)) := by
  have hj := (List.getElem?_eq_some_iff.1 hx).1
  rcases h with ⟨rfl, rfl⟩ | ⟨i, o, cap, tail, rfl, _, h3⟩
  · simp at hj
  · have := loadN_part (h3 j x hx).2 hp
    simp only [elemP, loadOp_ptr]
    rw [← Nat.add_assoc, this]
    rfl
theorem Row.cell (h : Row H s sz xs) {j : Nat} {x : List AV} (hx : xs[j]? = some x) (p : Nat) {v : AV} (hv : x[p]? = some v) : loadOp H (elemP s (j * sz + p)) none = some v := by
  have hj := (List.getElem?_eq_some_iff.1 hx).1
  rcases h with ⟨rfl, rfl⟩ | ⟨i, o, cap, tail, rfl, _, h3⟩
  · simp at hj
  · obtain ⟨hp, hpv⟩ := List.getElem?_eq_some_iff.1 hv
    have := loadN_part (h3 j x hx).2 (p := p) (m := 1) (by have := (h3 j x hx).1; omega)
    simp only [elemP, loadOp_ptr1]
    rw [← Nat.add_assoc, this]
    have e : (x.drop p).take 1 = [v] := by
      rw [List.drop_eq_getElem_cons hp, hpv]
      rfl
    rw [e]
    rfl
end

/-! ### cuts -/
def cutF (esz : Nat) (s : AV) (lo hi mx : Option AV) : Option AV := sliceOp esz .leaf s (lo.map X.c) (hi.map X.c) (mx.map X.c)
theorem bnd_c (T : Trie AV) (x : Option X) (y d : Nat) : bnd T x y d = bnd .leaf ((x.map (ev T)).map X.c) y d := by cases x <;> rfl
theorem sliceOp_cut (esz : Nat) (T : Trie AV) (s : AV) (lo hi mx : Option X) : sliceOp esz T s lo hi mx = cutF esz s (lo.map (ev T)) (hi.map (ev T)) (mx.map (ev T)) := by
  have e : ∀ l c, bnds T lo hi mx l c = bnds .leaf ((lo.map (ev T)).map X.c) ((hi.map (ev T)).map X.c) ((mx.map (ev T)).map X.c) l c := by
    intro l c
    unfold bnds
    rw [bnd_c T mx]
    cases bnd .leaf ((mx.map (ev T)).map X.c) c c with
    | none => rfl
    | some m =>
      simp only
      rw [bnd_c T hi]
      cases bnd .leaf ((hi.map (ev T)).map X.c) m l with
      | none => rfl
      | some h =>
        simp only
        rw [bnd_c T lo]
  unfold cutF sliceOp
  cases s <;> simp only [e, Option.isNone_map]
def clearF (z : List AV) (s : AV) (H : AHeap) : Option AHeap :=
  match s with
  | .nilslc => some H
  | .slc i off n _ _ => if n = 0 then some H else H.storeN i off (zeros z n)
  | _ => none
theorem opF_clear (z : List AV) (x : X) (T : Trie AV) (H : AHeap) : opF (.clear z x) T H = (clearF z (ev T x) H).map fun G => (.undef, G) := by
  simp only [opF, clearF]
  cases ev T x <;> try rfl
  simp only
  split <;> rfl
def lookupF (z : AV) (kn : List CK) (ag ok : Bool) (m k : AV) (H : AHeap) : Option (AV × AHeap) := opF (.lookup z kn ag (.c m) (.c k) ok) .leaf H
theorem opF_lookup (z : AV) (kn : List CK) (ag ok : Bool) (m k : X) (T : Trie AV) (H : AHeap) : opF (.lookup z kn ag m k ok) T H = lookupF z kn ag ok (ev T m) (ev T k) H := rfl
def mapSetF (kn : List CK) (ag : Bool) (m k x : AV) (H : AHeap) : Option (AV × AHeap) := opF (.mapSet kn ag (.c m) (.c k) (.c x)) .leaf H
theorem opF_mapSet (kn : List CK) (ag : Bool) (m k x : X) (T : Trie AV) (H : AHeap) : opF (.mapSet kn ag m k x) T H = mapSetF kn ag (ev T m) (ev T k) (ev T x) H := rfl
def mapEntryF (z : AV) (kn : List CK) (ag : Bool) (m k : AV) (H : AHeap) : Option (AV × AHeap) := opF (.mapEntry z kn ag (.c m) (.c k)) .leaf H
theorem opF_mapEntry (z : AV) (kn : List CK) (ag : Bool) (m k : X) (T : Trie AV) (H : AHeap) : opF (.mapEntry z kn ag m k) T H = mapEntryF z kn ag (ev T m) (ev T k) H := rfl
def entryStoreF (m s x : AV) (H : AHeap) : Option (AV × AHeap) := opF (.entryStore (.c m) (.c s) (.c x)) .leaf H
theorem opF_entryStore (m s x : X) (T : Trie AV) (H : AHeap) : opF (.entryStore m s x) T H = entryStoreF (ev T m) (ev T s) (ev T x) H := rfl
def deleteF (kn : List CK) (ag : Bool) (m k : AV) (H : AHeap) : Option (AV × AHeap) := opF (.delete kn ag (.c m) (.c k)) .leaf H
theorem opF_delete (kn : List CK) (ag : Bool) (m k : X) (T : Trie AV) (H : AHeap) : opF (.delete kn ag m k) T H = deleteF kn ag (ev T m) (ev T k) H := rfl
def lenMF (m : AV) (H : AHeap) : Option (AV × AHeap) := opF (.lenM (.c m)) .leaf H
theorem opF_lenM (m : X) (T : Trie AV) (H : AHeap) : opF (.lenM m) T H = lenMF (ev T m) H := rfl
/-- A read is looked at again. -/
def rereadF (r : Option (AV × AHeap)) (v : AV) : Bool :=
  match r with
  | some (u, _) => AV.same u v
  | none => false
theorem rereadF_some (u v : AV) (H : AHeap) : rereadF (some (u, H)) v = AV.same u v := rfl
theorem reads_go (d : Nat) (op : AOp) (T : Trie AV) (H : AHeap) : reads ⟨T, H⟩ ⟨some d, op, none⟩ = rereadF (opF op T H) (St.get T d) := by
  simp only [reads, wanted]
  cases opF op T H <;> rfl
theorem same_int (k : IntKind) (n : Int) : AV.same (.int k n) (.int k n) = true := by simp [AV.same]
theorem callN_of {E : Env} {f : Nat} {fn : AFunc} {args : List AV} {H : AHeap} {Q : AV → AHeap → Prop} (he : E.ext f = none) (hf : E.ft f = some fn)
    (h : RC (callN E n) n fn.body ⟨putArgs args 0 .leaf, H⟩ (fun o s => (o = .normal ∨ o = .ret) ∧ bindP (result s.T s.H fn.results) (fun v => Q v s.H))) :
    ∃ v H', callN E (n + 1) f args H = some (v, H') ∧ Q v H' := by
  unfold RC at h
  rw [bindP_iff] at h
  obtain ⟨⟨o, s⟩, hr, ho, hq⟩ := h
  rw [bindP_iff] at hq
  obtain ⟨v, hv, hq⟩ := hq
  refine ⟨v, s.H, ?_, hq⟩
  simp only [callN, he, hf, hr]
  simp only at ho hv
  rcases ho with rfl | rfl <;> simp only [hv, Option.map_some]

theorem loadN_eq (H : AHeap) (i : Id) (o n : Nat) : H.loadN i o n = if n = 0 then some [] else (match H.get i with
  | some (.cells cs _) => seg cs o n
  | _ => none) := rfl
theorem alloc_next (H : AHeap) (b : ABlk) : (H.alloc b).next = H.next + 1 := rfl
theorem alloc_old (H : AHeap) (b : ABlk) : (H.alloc b).old = H.old := rfl
theorem setN_next (H : AHeap) (k : Nat) (b : ABlk) : (H.setN k b).next = H.next := rfl
theorem loadN_new (H : AHeap) (cs : List AV) (z o n : Nat) : (H.alloc (.cells cs z)).loadN (.n H.next) o n = if n = 0 then some [] else seg cs o n := by
  rw [loadN_eq, AHeap.get_alloc, if_pos rfl]
theorem loadN_alloc_o (H : AHeap) (b : ABlk) (j o n : Nat) : (H.alloc b).loadN (.o j) o n = H.loadN (.o j) o n := rfl
theorem loadN_alloc_n (H : AHeap) (b : ABlk) (k o n : Nat) (h : k ≠ H.next) : (H.alloc b).loadN (.n k) o n = H.loadN (.n k) o n := by
  unfold AHeap.loadN
  rw [AHeap.get_alloc, if_neg (show ¬ Id.n k = Id.n H.next from fun e => h (by injection e))]
theorem put_one_same {α : Type} (f : Nat) : ∀ (k : Nat) (v w : Option α), k ≤ f → ((Trie.one f k v).put k w) = Trie.one f k w := by
  induction f with
  | zero =>
    intro k v w h
    obtain rfl : k = 0 := by omega
    rfl
  | succ f ih =>
    intro k v w h
    by_cases h0 : k = 0
    · subst h0; rfl
    · have e0 : Nat.beq k 0 = false := Trie.beq0 h0
      unfold Trie.one
      by_cases h1 : k % 2 = 1
      · have e1 : Nat.beq (k % 2) 1 = true := by rw [h1]; rfl
        simp only [e0, e1, cond, Trie.put]
        rw [ih _ _ _ (by omega)]
      · have e1 : Nat.beq (k % 2) 1 = false := by rw [show k % 2 = 0 by omega]; rfl
        simp only [e0, e1, cond, Trie.put]
        rw [ih _ _ _ (by omega)]
theorem put_put {α : Type} (t : Trie α) : ∀ (k : Nat) (v w : Option α), (t.put k v).put k w = t.put k w := by
  induction t with
  | leaf =>
    intro k v w
    exact put_one_same k k v w (Nat.le_refl _)
  | node u l r ihl ihr =>
    intro k v w
    unfold Trie.put
    by_cases h0 : k = 0
    · subst h0; rfl
    · have e0 : Nat.beq k 0 = false := Trie.beq0 h0
      by_cases h1 : k % 2 = 1
      · have e1 : Nat.beq (k % 2) 1 = true := by rw [h1]; rfl
        simp only [e0, e1, cond, Trie.put, ihl]
      · have e1 : Nat.beq (k % 2) 1 = false := by rw [show k % 2 = 0 by omega]; rfl
        simp only [e0, e1, cond, Trie.put, ihr]
theorem alloc_setN (H : AHeap) (b c : ABlk) : (H.alloc b).setN H.next c = H.alloc c := by
  simp only [AHeap.alloc, AHeap.setN, put_put]
theorem storeN_new (H : AHeap) (cs : List AV) (z o : Nat) (vs : List AV) : (H.alloc (.cells cs z)).storeN (.n H.next) o vs =
    if vs = [] then some (H.alloc (.cells cs z)) else if (decide (o + vs.length ≤ cs.length) && vs.all AV.one) = true then some (H.alloc (.cells (lay cs o vs) z)) else none := by
  unfold AHeap.storeN
  have e : (H.alloc (.cells cs z)).get (.n H.next) = some (.cells cs z) := by rw [AHeap.get_alloc, if_pos rfl]
  simp only [e, alloc_setN]
theorem lay_eq {α : Type} (cs : List α) (o : Nat) (vs : List α) : lay cs o vs = cs.take o ++ vs ++ cs.drop (o + vs.length) := rfl
theorem loadN_alloc2 (H : AHeap) (b c : ABlk) (o n : Nat) : ((H.alloc b).alloc c).loadN (.n H.next) o n = (H.alloc b).loadN (.n H.next) o n := loadN_alloc_n _ _ _ _ _ (by rw [alloc_next]; omega)
theorem seg_eq (cs : List AV) (o n : Nat) : seg cs o n = if o + n ≤ cs.length then some ((cs.drop o).take n) else none := rfl
theorem wrap_nat (i : Nat) (h : i < 9223372036854775808) : IntKind.i64.wrap (i : Int) = i := IntWalk.i64_in _ (by omega)
theorem inc_ok (i : Nat) (h : i < 9223372036854775807) : IntKind.i64.wrap ((i : Int) + 1) = ((i + 1 : Nat) : Int) := by
  rw [IntWalk.i64_in _ (by omega)]
  omega
theorem wrap_01 : IntKind.i64.wrap (0 + 1) = 1 := by decide
theorem wrap_11 : IntKind.i64.wrap (1 + 1) = 2 := by decide
theorem lt_t {a b : Nat} (h : a < b) : decide ((a : Int) < (b : Int)) = true := by simpa using h
theorem lt_f {a b : Nat} (h : ¬ a < b) : decide ((a : Int) < (b : Int)) = false := by simpa using h
theorem eqb_int (a b : Int) : (a == b) = decide (a = b) := rfl
end
end Go.AI
