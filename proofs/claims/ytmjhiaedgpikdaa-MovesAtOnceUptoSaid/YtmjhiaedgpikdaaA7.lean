/- THE SECOND MACHINE, 7: the operations of the model, and what they come to on both sides: those that look at no memory. Own work. -/
import Derived.Test.YtmjhiaedgpikdaaA6
set_option linter.unusedSimpArgs false
set_option linter.unusedVariables false
namespace Go.AI
section
variable (P : Program)

def isIntT (t : TypeId) : Bool := match P.underlying t with | some (.int _) => true | _ => false
def isConstX : Operand → Bool
  | .const _ => true
  | _ => false
def trParts (places : Nat → Option (Nat × Nat)) : List (Nat × Operand) → Option (List (Nat × Nat × X))
  | [] => some []
  | (i, x) :: r => match places i, trX x, trParts places r with
    | some (o, n), some a, some l => some ((o, n, a) :: l)
    | _, _, _ => none
def structPlace (fs : Array Field) (i : Nat) : Option (Nat × Nat) :=
  match fs[i]? with
  | some f => (sizeT P f.type).map fun n => (f.offset, n)
  | none => none
def isStructT (kt : TypeId) : Bool := match P.underlying kt with | some (.struct _) => true | _ => false
def mapT (t : TypeId) : Option (List CK × Bool × AV) :=
  match P.underlying t with
  | some (.map k e) => match flatK P 100 k, zeroT P e with
    | some ks, some z => some (ks, isStructT P k, z)
    | _, _ => none
  | _ => none
def trBin (op : BinOp) (t : TypeId) (x y : Operand) : Option AOp :=
  match trX x, trX y with
  | some a, some b =>
    match P.underlying t with
    | some (.int _) => some (.bin op a b)
    | some d =>
      match op with
      | .eql | .neq =>
        let neg := (match op with | .neq => true | _ => false)
        match d with
        | .bool => some (.cmp neg .bool a b)
        | .string => some (.cmp neg .str a b)
        | .pointer _ => some (.cmp neg .ptr a b)
        | .slice _ => some (.cmp neg .slc a b)
        | .map _ _ => some (.cmp neg .map a b)
        | .func _ _ _ => some (.cmp neg .func a b)
        | .interface _ => if isConstX x || isConstX y then some (.cmp neg .iface a b) else none
        | .struct _ => if P.eqGuardType P.depth t then none else (flatK P 100 t).map fun ks => .cmp neg (.flat ks) a b
        | _ => none
      | _ => none
    | none => none
  | _, _ => none
def trBuiltin (b : Builtin) (ats : List TypeId) (args : List Operand) : Option AOp :=
  match b, ats, args with
  | .len, [t], [x] => match trX x, P.underlying t with
    | some a, some (.slice _) => some (.lenS a)
    | some a, some .string => some (.lenT a)
    | some a, some (.map _ _) => some (.lenM a)
    | some _, some (.array n _) => some (.lenA n)
    | _, _ => none
  | .append, [t, u], [x, y] => match P.underlying t, P.underlying u, trX x, trX y with
    | some (.slice e), some (.slice _), some a, some b => match P.info? e, zeroCellsT P e with
      | some i, some z => if i.size = 0 then none else some (.append i.size i.bytes z a b)
      | _, _ => none
    | _, _, _, _ => none
  | .copy, [t, u], [x, y] => match P.underlying t, P.underlying u, trX x, trX y with
    | some (.slice e), some (.slice _), some a, some b => (sizeT P e).map fun n => .copy n a b
    | _, _, _, _ => none
  | .clear, [t], [x] => match P.underlying t, trX x with
    | some (.slice e), some a => (zeroCellsT P e).map fun z => .clear z a
    | _, _ => none
  | .delete, [t, _], [m, k] => match mapT P t, trX m, trX k with
    | some (ks, ag, _), some a, some b => some (.delete ks ag a b)
    | _, _, _ => none
  | .max, _, [x, y] => match trX x, trX y with
    | some a, some b => some (.mx a b)
    | _, _ => none
  | .min, _, [x, y] => match trX x, trX y with
    | some a, some b => some (.mn a b)
    | _, _ => none
  | _, _, _ => none

def trOp (o : Op) : Option AOp :=
  match o with
  | .move x | .assign x => (trX x).map .mv
  | .pick c a b => match trX c, trX a, trX b with
    | some c, some a, some b => some (.pick c a b)
    | _, _, _ => none
  | .alloc e => (zeroCellsT P e).map .alloc
  | .box _ x => (trX x).map .box
  | .build t parts => match P.underlying t, zeroCellsT P t with
    | some (.struct fs), some z => match fs.toList.mapM (fun f => (P.info? f.type).map fun i => (f.offset, i.size)) with
      | some places => (trParts (places[·]?) parts.toList).map fun l => .build z l
      | none => none
    | some (.array _ e), some z => match sizeT P e with
      | some n => (trParts (fun i => some (i * n, n)) parts.toList).map fun l => .build z l
      | none => none
    | _, _ => none
  | .buildSlice t len parts => match P.underlying t with
    | some (.slice e) => match zeroCellsT P e with
      | some z => if 2 ^ 24 < len * z.length then none else
        (trParts (fun i => some (i * z.length, z.length)) parts.toList).map fun l => .bslice z.length len (zeros z len) l
      | none => none
    | _ => none
  | .load t a => match selT P t, trX a with
    | some s, some a => some (.load s a)
    | _, _ => none
  | .store t a x => match sizeT P t, trX a, trX x with
    | some n, some a, some x => some (.store n a x)
    | _, _, _ => none
  | .nilCheck x => (trX x).map .nilCheck
  | .binOp op t x y _ => trBin P op t x y
  | .unOp op _ x => (trX x).map (.un op)
  | .convert s d x => match P.underlying s, P.underlying d, trX x with
    | some _, some (.int k), some a => some (.conv k a)
    | _, _, _ => none
  | .makeInterface t x => match P.underlying t, trX x with
    | some (.interface _), _ => none
    | some _, some a => some (.mkIface t a)
    | _, _ => none
  | .makeFunc (.func f) first captured => match trXs first.toList, trXs captured.toList with
    | some a, some b => some (.mkFunc f a b)
    | _, _ => none
  | .makeMap _ none => some .mkMap
  | .makeSlice t l c => match P.underlying t with
    | some (.slice e) => match P.info? e, zeroCellsT P e, trX l, trX c with
      | some i, some z, some l, some c => if i.bytes = 0 then none else some (.mkSlice i.size i.bytes z l c)
      | _, _, _, _ => none
    | _ => none
  | .slice t x lo hi mx => match P.underlying t with
    | some (.slice e) => match sizeT P e, trX x, trO lo, trO hi, trO mx with
      | some n, some x, some lo, some hi, some mx => if mx.isSome && hi.isNone then none else some (.slice n x lo hi mx)
      | _, _, _, _, _ => none
    | _ => none
  | .fieldAddr t x f => match P.underlying t, trX x with
    | some (.struct fs), some a => match structPlace P fs f with
      | some (o, n) => if n = 0 then none else some (.fieldAddr o a)
      | none => none
    | _, _ => none
  | .field t x f => match P.underlying t, trX x with
    | some (.struct fs), some a => match fs[f]? with
      | some f => (selT P f.type).map fun s => .field f.offset s a
      | none => none
    | _, _ => none
  | .indexAddr t x i => match trX x, trX i with
    | some a, some b => match P.underlying t with
      | some (.slice e) => (sizeT P e).map fun n => .idxAddr n a b
      | some (.array len e) => (sizeT P e).map fun n => .idxAddrA n len a b
      | _ => none
    | _, _ => none
  | .index t x i => match trX x, trX i with
    | some a, some b => match P.underlying t with
      | some (.array len e) => match sizeT P e, selT P e with
        | some n, some s => some (.index n len s a b)
        | _, _ => none
      | _ => none
    | _, _ => none
  | .lookup t m k ok => match mapT P t, trX m, trX k with
    | some (ks, ag, z), some a, some b => some (.lookup z ks ag a b ok)
    | _, _, _ => none
  | .mapUpdate t m k x | .insert t m k x => match mapT P t, trX m, trX k, trX x with
    | some (ks, ag, _), some a, some b, some v => some (.mapSet ks ag a b v)
    | _, _, _, _ => none
  | .mapEntry t m k => match mapT P t, trX m, trX k with
    | some (ks, ag, z), some a, some b => some (.mapEntry z ks ag a b)
    | _, _, _ => none
  | .entryStore _ m s v => match trX m, trX s, trX v with
    | some a, some b, some c => some (.entryStore a b c)
    | _, _, _ => none
  | .extract x i => (trX x).map fun a => .extract a i
  | .typeAssert x _ t ok => match P.underlying t, zeroT P t, trX x with
    | some (.interface _), _, _ => none
    | some _, some z, some a => some (.typeAssert a t z ok)
    | _, _, _ => none
  | .call { callee := .builtin b, args, argTypes } => trBuiltin P b argTypes.toList args.toList
  | _ => none
/-- The same, and calls. -/
def trOpC (o : Op) : Option AOp :=
  match o with
  | .call { callee := .value f, args, .. } => match trX f, trXs args.toList with
    | some f, some l => some (.call f l)
    | _, _ => none
  | o => match trOp P o with
    | some (.call _ _) => none
    | r => r
end
theorem trOpC_spec {P : Program} {o : Op} {ao : AOp} (h : trOpC P o = some ao) :
    (∃ f args ats f' l, o = .call { callee := .value f, args := args, argTypes := ats } ∧ trX f = some f' ∧ trXs args.toList = some l ∧ ao = .call f' l) ∨
    (trOp P o = some ao ∧ ∀ f l, ao ≠ .call f l) := by
  unfold trOpC at h
  split at h
  · rename_i f args ats
    split at h
    · rename_i f' l hf hl
      cases h
      exact .inl ⟨f, args, ats, f', l, rfl, hf, hl, rfl⟩
    · cases h
  · split at h
    · cases h
    · rename_i hn
      refine .inr ⟨h, fun f l e => ?_⟩
      subst e
      exact hn f l h

/-! ### what the slots hold -/
def TR (φ : Emb) (T : Trie AV) (tmps : Array Value) : Prop := ∀ t, VR φ (St.get T t) (tmps.getD t undef)

section
variable {P : Program} {φ : Emb} {w0 w : World} {T : Trie AV} {H : AHeap} {a : Act}

theorem ev_VR (hT : TR φ T a.tmps) (hR : Rel φ w0 H w) {o : Operand} {x : X} (h : trX o = some x) : VR φ (ev T x) (a.eval o) := by
  cases o with
  | tmp t => cases h; exact hT t
  | const v =>
    simp only [trX, Option.map_eq_some_iff] at h
    obtain ⟨av, hv, rfl⟩ := h
    exact absC_VR hv
  | global g =>
    cases h
    obtain ⟨d, hd⟩ := hR.olds g
    exact ⟨_, hd, by simp [Act.eval]⟩
  | func f => cases h; exact ⟨#[], #[], rfl, VRs.nil, VRs.nil⟩
theorem evs_VR (hT : TR φ T a.tmps) (hR : Rel φ w0 H w) : ∀ {os : List Operand} {xs : List X}, trXs os = some xs → VRs φ (xs.map (ev T)) (os.map a.eval)
  | [], xs, h => by cases h; exact VRs.nil
  | o :: os, xs, h => by
    unfold trXs at h
    split at h
    · rename_i x l hx hl
      cases h
      exact VRs.cons (ev_VR hT hR hx) (evs_VR hT hR hl)
    · cases h

/-- How an operation's run ends: with a value, or with none. -/
def Res (r : Result Next) (v : Value) (w : World) : Prop := r = .ok (.value v) w ∨ (r = .ok .skip w ∧ v = undef)

def OpOk (P : Program) (o : Oper) (ao : AOp) : Prop :=
  ∀ (φ : Emb) (w0 : World) (T : Trie AV) (H : AHeap) (a : Act) (w : World) (v : AV) (H' : AHeap), TR φ T a.tmps → Rel φ w0 H w → opF ao T H = some (v, H') →
    ∃ φ' v' w', Res ((execOp a.eval o).run P w) v' w' ∧ Step φ H φ' H' ∧ VR φ' v v' ∧ Rel φ' w0 H' w'

theorem OpOk.same {o : Oper} {v : AV} {H' : AHeap} {v' : Value} (hH : H' = H) (hR : Rel φ w0 H w) (hr : (execOp a.eval o).run P w = .ok (.value v') w) (hv : VR φ v v') :
    ∃ φ' v' w', Res ((execOp a.eval o).run P w) v' w' ∧ Step φ H φ' H' ∧ VR φ' v v' ∧ Rel φ' w0 H' w' := by
  subst hH
  exact ⟨φ, v', w, .inl hr, Step.refl _ _, hv, hR⟩
end

section ints
variable {P : Program} {w : World}
theorem run_intBits {op : BinOp} {k : IntKind} {x y : Int} {v : AV} (h : intBits op k x y = some v) {φ : Emb} : ∃ v', (Op.intBits op k x y).run P w = .ok v' w ∧ VR φ v v' := by
  unfold intBits at h
  cases op <;> simp only at h <;> first | (cases h; exact ⟨_, rfl, rfl⟩) | cases h
theorem run_binInt {op : BinOp} {k : IntKind} {x y : Int} {v : AV} (h : binInt op k x y = some v) (hs : isShift op = false) (t : TypeId) {φ : Emb} :
    ∃ v', (binOp op t (.int k x) (.int k y)).run P w = .ok v' w ∧ VR φ v v' := by
  cases op <;> simp only [isShift, Bool.true_eq_false] at hs <;> simp only [binInt] at h
  case add => cases h; exact ⟨_, by simp [binOp, Op.intArith], rfl⟩
  case sub => cases h; exact ⟨_, by simp [binOp, Op.intArith], rfl⟩
  case mul => cases h; exact ⟨_, by simp [binOp, Op.intArith], rfl⟩
  case quo =>
    split at h
    · cases h
    · rename_i hy; cases h; exact ⟨.int k (k.wrap (x.tdiv y)), by simp [binOp, Op.intDiv, hy], rfl⟩
  case rem =>
    split at h
    · cases h
    · rename_i hy; cases h; exact ⟨.int k (x.tmod y), by simp [binOp, Op.intDiv, hy], rfl⟩
  case and => simpa [binOp] using run_intBits (P := P) (w := w) (φ := φ) h
  case or => simpa [binOp] using run_intBits (P := P) (w := w) (φ := φ) h
  case xor => simpa [binOp] using run_intBits (P := P) (w := w) (φ := φ) h
  case andNot => simpa [binOp] using run_intBits (P := P) (w := w) (φ := φ) h
  case eql => cases h; exact ⟨_, by simp [binOp, Op.intCmp], rfl⟩
  case neq => cases h; exact ⟨_, by simp [binOp, Op.intCmp], rfl⟩
  case lss => cases h; exact ⟨_, by simp [binOp, Op.intCmp], rfl⟩
  case leq => cases h; exact ⟨_, by simp [binOp, Op.intCmp], rfl⟩
  case gtr => cases h; exact ⟨_, by simp [binOp, Op.intCmp], rfl⟩
  case geq => cases h; exact ⟨_, by simp [binOp, Op.intCmp], rfl⟩
  all_goals cases h
theorem run_shift {op : BinOp} {k j : IntKind} {x y : Int} {v : AV} (h : binShift op k x y = some v) (t : TypeId) {φ : Emb} :
    ∃ v', (binOp op t (.int k x) (.int j y)).run P w = .ok v' w ∧ VR φ v v' := by
  unfold binShift at h
  split at h
  · cases h
  · rename_i hy
    cases op <;> simp only at h
    case shl => cases h; exact ⟨.int k (k.wrap (x * 2 ^ (min y.toNat k.bits))), by simp [binOp, Op.shift, hy], rfl⟩
    case shr => cases h; exact ⟨.int k (x.fdiv (2 ^ (min y.toNat k.bits))), by simp [binOp, Op.shift, hy], rfl⟩
    all_goals cases h
theorem run_binA {op : BinOp} {x y : AV} {v : AV} (h : binA op x y = some v) (t : TypeId) {φ : Emb} {x' y' : Value} (hx : VR φ x x') (hy : VR φ y y') :
    ∃ v', (binOp op t x' y').run P w = .ok v' w ∧ VR φ v v' ∧ (∃ k n, x' = .int k n) := by
  unfold binA at h
  split at h
  · rename_i k a j b
    have hx : x' = .int k a := hx
    have hy : y' = .int j b := hy
    subst hx; subst hy
    split at h
    · obtain ⟨v', h1, h2⟩ := run_shift (P := P) (w := w) (φ := φ) h t (j := j)
      exact ⟨v', h1, h2, _, _, rfl⟩
    · rename_i hs
      split at h
      · rename_i e
        subst e
        obtain ⟨v', h1, h2⟩ := run_binInt (P := P) (w := w) (φ := φ) h (by simpa using hs) t
        exact ⟨v', h1, h2, _, _, rfl⟩
      · cases h
  · cases h
theorem run_unA {op : UnOp} {x v : AV} (h : unA op x = some v) {φ : Emb} {x' : Value} (hx : VR φ x x') : ∃ v', (Op.unary op x').run P w = .ok v' w ∧ VR φ v v' := by
  unfold unA at h
  split at h
  · cases h; have hx : x' = _ := hx; subst hx; exact ⟨_, rfl, rfl⟩
  · have hx : x' = _ := hx
    subst hx
    obtain ⟨v', h1, h2⟩ := run_intBits (P := P) (w := w) (φ := φ) h
    exact ⟨v', by simpa [Op.unary] using h1, h2⟩
  · cases h; have hx : x' = _ := hx; subst hx; exact ⟨_, rfl, rfl⟩
  · cases h
theorem run_eqGuard_int {op : BinOp} {t : TypeId} {x y : Operand} {k j : IntKind} {a b : Int} : (eqGuard op t x y (.int k a) (.int j b)).run P w = .ok () w := by
  cases op <;> simp [eqGuard]
end ints
end Go.AI
