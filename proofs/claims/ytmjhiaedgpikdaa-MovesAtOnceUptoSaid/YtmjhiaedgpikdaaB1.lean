/- THE DATA MACHINE, 1: values with lists in them, a heap of one's own, operations, code; all of it plain functions over the second machine's code. Own work. -/
import Derived.Test.YtmjhiaedgpikdaaA22
set_option linter.unusedSimpArgs false
set_option linter.unusedVariables false
namespace Go.AI

inductive DBlk where
  | cells (cs : List AV)
  | rows (esz : Nat) (rs : List (List AV)) (grow : Bool)
  | map (es : List (AV × AV × Nat)) (clock : Nat)

abbrev DHeap := List (Option DBlk)
def hget (L : DHeap) (k : Nat) : Option DBlk := (L[k]?).join
def hset (L : DHeap) (k : Nat) (b : DBlk) : DHeap := L.set k (some b)
def hkill (L : DHeap) (k : Nat) : DHeap := L.set k none
def halloc (L : DHeap) (b : DBlk) : DHeap := L ++ [some b]

structure DSt where
  T : Trie AV
  L : DHeap
def DSt.put (s : DSt) (d : Option Nat) (v : AV) : DSt :=
  match d with
  | some d => { s with T := s.T.put d (some v) }
  | none => s

inductive Mode where
  | P | R | S

/-- Functions of Go's library that are told as a whole. -/
inductive Prim where
  | clone (esz bytes : Nat)

structure DEnv where
  ft : Nat → Option AFunc
  mode : Nat → Mode
  glob : Nat → Option (List AV)
  prim : Nat → Option Prim

 mutual
def pur : AV → Bool
  | .bool _ | .int _ _ | .str _ | .nilptr | .nilmap | .nilfunc | .niliface | .lst _ => true
  | .func _ a b => purs a && purs b
  | .iface _ v => pur v
  | .agg cs => purs cs
  | .tuple cs => purs cs
  | _ => false
 termination_by structural x => x
def purs : List AV → Bool
  | [] => true
  | v :: r => pur v && purs r
 termination_by structural x => x
end
def purR : List (List AV) → Bool
  | [] => true
  | r :: l => purs r && purR l
 mutual
def atomic : AV → Bool
  | .bool _ | .int _ _ | .str _ | .nilptr | .nilmap | .nilfunc | .niliface => true
  | .func _ a b => atomics a && atomics b
  | .iface _ v => atomic v
  | .agg cs => atomics cs
  | .tuple cs => atomics cs
  | _ => false
 termination_by structural x => x
def atomics : List AV → Bool
  | [] => true
  | v :: r => atomic v && atomics r
 termination_by structural x => x
end
 mutual
def below (n : Nat) : AV → Bool
  | .ptr (.n k) _ => Nat.blt k n
  | .slc (.n k) _ _ _ _ => Nat.blt k n
  | .map (.n k) => Nat.blt k n
  | .eptr k _ _ _ => Nat.blt k n
  | .func _ a b => belows n a && belows n b
  | .iface _ v => below n v
  | .agg cs => belows n cs
  | .tuple cs => belows n cs
  | _ => true
 termination_by structural x => x
def belows (n : Nat) : List AV → Bool
  | [] => true
  | v :: r => below n v && belows n r
 termination_by structural x => x
end
def nrm : AV → AV
  | .nilslc => .lst []
  | v => v
def evenB (n : Nat) : List (List AV) → Bool
  | [] => true
  | r :: l => Nat.beq r.length n && evenB n l
def oneR : List (List AV) → Bool
  | [] => true
  | r :: l => r.all AV.one && oneR l

/-- A slice of a block may be looked at. -/
def validB (rs : List (List AV)) (g : Bool) (off len cap : Nat) : Bool := (if g then Nat.beq (off + cap) rs.length else Nat.ble (off + cap) rs.length) && Nat.ble len cap
/-- The rows of a slice. -/
def rowsV (L : DHeap) : AV → Option (List (List AV))
  | .nilslc => some []
  | .lst rs => some rs
  | .slc (.n k) off len cap _ => match hget L k with
    | some (.rows _ rs g) => if validB rs g off len cap then some ((rs.drop off).take len) else none
    | _ => none
  | _ => none
def lenV (L : DHeap) : AV → Option Nat
  | .nilslc => some 0
  | .lst rs => some rs.length
  | .slc (.n k) off len cap _ => match hget L k with
    | some (.rows _ rs g) => if validB rs g off len cap then some len else none
    | _ => none
  | _ => none

/-- What is read at an address. -/
def readN (E : DEnv) (L : DHeap) (n : Nat) : AV → Option (List AV)
  | .ptr (.n k) off => match hget L k with
    | some (.cells cs) => seg cs off n
    | _ => none
  | .ptr (.o g) off => match E.glob g with
    | some cs => seg cs off n
    | none => none
  | .fptr cs off => seg cs off n
  | .eptr k ver row off => match hget L k with
    | some (.rows _ rs _) => if Nat.beq rs.length ver then match rs[row]? with
      | some r => seg r off n
      | none => none
      else none
    | _ => none
  | _ => none
def loadD (E : DEnv) (L : DHeap) (n : Option Nat) (a : AV) : Option AV :=
  match n with
  | none => match readN E L 1 a with
    | some [v] => some v
    | _ => none
  | some n => (readN E L n a).map .agg
def storeD (fl n : Nat) (a x : AV) (L : DHeap) : Option DHeap :=
  if x.ok = true ∧ x.cells.length = n ∧ x.cells.all AV.one = true then
    match a with
    | .ptr (.n k) off => match hget L k with
      | some (.cells cs) => if off + n ≤ cs.length ∧ (purs x.cells = true ∨ fl ≤ k) then some (hset L k (.cells (lay cs off x.cells))) else none
      | _ => none
    | .eptr k ver row off => match hget L k with
      | some (.rows e rs g) => if rs.length = ver then match rs[row]? with
        | some r => if off + n ≤ r.length ∧ (purs (x.cells.map nrm) = true ∨ fl ≤ k) then some (hset L k (.rows e (rs.set row (lay r off (x.cells.map nrm))) g)) else none
        | none => none
        else none
      | _ => none
    | _ => none
  else none
def chunks (n : Nat) : Nat → List AV → List (List AV)
  | 0, _ => []
  | m + 1, cs => cs.take n :: chunks n m (cs.drop n)
def idxD (esz : Nat) (L : DHeap) (s i : AV) : Option AV :=
  match i with
  | .int _ n => if 0 ≤ n then match s with
    | .lst rs => match rs[n.toNat]? with
      | some r => if r.length = esz then some (.fptr r 0) else none
      | none => none
    | .slc (.n k) off len cap _ => match hget L k with
      | some (.rows e rs g) => if validB rs g off len cap = true ∧ e = esz ∧ n.toNat < len then some (.eptr k rs.length (off + n.toNat) 0) else none
      | _ => none
    | _ => none
    else none
  | _ => none
def addD (off : Nat) : AV → Option AV
  | .ptr i o => some (.ptr i (o + off))
  | .fptr cs o => some (.fptr cs (o + off))
  | .eptr k v r o => some (.eptr k v r (o + off))
  | _ => none
def idxAD (esz len : Nat) (a i : AV) : Option AV :=
  match i with
  | .int _ n => if 0 ≤ n ∧ n < len then addD (n.toNat * esz) a else none
  | _ => none
def bndV (x : Option AV) (y d : Nat) : Option Nat :=
  match x with
  | some v => bound v y
  | none => some d
def bndsV (lo hi mx : Option AV) (len cap : Nat) : Option (Nat × Nat × Nat) :=
  match bndV mx cap cap with
  | none => none
  | some m => match bndV hi m len with
    | none => none
    | some h => match bndV lo h 0 with
      | none => none
      | some l => some (l, h, m)
def cutD (esz : Nat) (L : DHeap) (s : AV) (lo hi mx : Option AV) : Option AV :=
  match s with
  | .nilslc => (bndsV lo hi mx 0 0).map fun _ => .nilslc
  | .lst rs => if (evenB esz rs && mx.isNone) = true then (bndsV lo hi mx rs.length rs.length).map fun b => .lst ((rs.drop b.1).take (b.2.1 - b.1)) else none
  | .slc (.n k) off len cap tail => match hget L k with
    | some (.rows e rs g) => if validB rs g off len cap = true ∧ (rs = [] ∨ e = esz) then
        match bndsV lo hi mx len cap with
        | some (l, h, m) => if (mx.isSome && (Nat.beq m l && Nat.beq h l)) = true then some .nilslc else some (.slc (.n k) (off + l) (h - l) (m - l) (tail && mx.isNone))
        | none => none
      else none
    | _ => none
  | _ => none
def roomB (n bytes : Nat) : Bool := Nat.ble (n * bytes) reachB && Nat.ble n reachB
def appendD (fl esz bytes : Nat) (L : DHeap) (s x : AV) : Option (AV × DHeap) :=
  match rowsV L x with
  | none => none
  | some new0 =>
    let new := new0.map (·.map nrm)
    if (evenB esz new && oneR new) = true then
      match s with
      | .nilslc => if new0.length = 0 then some (.nilslc, L) else
          if roomB new0.length bytes then some (.slc (.n L.length) 0 new0.length new0.length true, halloc L (.rows esz new true)) else none
      | .slc (.n k) off len cap tail => match hget L k with
        | some (.rows e rs g) =>
          if validB rs g off len cap = true then
            if len + new0.length ≤ cap then
              if (e = esz ∨ new0.length = 0) ∧ (purR new = true ∨ fl ≤ k) then some (.slc (.n k) off (len + new0.length) cap tail, if new0.length = 0 then L else hset L k (.rows e (lay rs (off + len) new) g)) else none
            else if roomB (len + new0.length) bytes = true ∧ (rs = [] ∨ e = esz) then
              if tail then
                if g = true ∧ (purR new = true ∨ fl ≤ k) then
                  if off = 0 then some (.slc (.n k) 0 (len + new0.length) (len + new0.length) true, hset L k (.rows esz (rs.take len ++ new) true))
                  else some (.slc (.n L.length) 0 (len + new0.length) (len + new0.length) true, halloc (hkill L k) (.rows esz ((rs.drop off).take len ++ new) true))
                else none
              else some (.slc (.n L.length) 0 (len + new0.length) (len + new0.length) true, halloc L (.rows esz ((rs.drop off).take len ++ new) true))
            else none
          else none
        | _ => none
      | _ => none
    else none
def copyD (fl esz : Nat) (L : DHeap) (d s : AV) : Option (AV × DHeap) :=
  match lenV L d, rowsV L s with
  | some n, some src =>
    if n = 0 ∨ src.length = 0 then some (.int .i64 0, L) else
    match d with
    | .slc (.n k) off len cap _ => match hget L k with
      | some (.rows e rs g) =>
        let new := (src.take (Nat.min src.length n)).map (·.map nrm)
        if validB rs g off len cap = true ∧ e = esz ∧ evenB esz src = true ∧ oneR new = true ∧ (purR new = true ∨ fl ≤ k) then some (.int .i64 (Nat.min src.length n : Nat), hset L k (.rows e (lay rs off new) g)) else none
      | _ => none
    | _ => none
  | _, _ => none
def clearD (fl : Nat) (z : List AV) (L : DHeap) (x : AV) : Option DHeap :=
  match x with
  | .nilslc => some L
  | .slc (.n k) off len cap _ => match hget L k with
    | some (.rows e rs g) =>
      let z' := z.map nrm
      if validB rs g off len cap = true ∧ (len = 0 ∨ e = z.length) ∧ z'.all AV.one = true ∧ (purs z' = true ∨ fl ≤ k) then some (if len = 0 then L else hset L k (.rows e (lay rs off (List.replicate len z')) g)) else none
    | _ => none
  | _ => none
def cmpD (t : CmpT) (x y : AV) : Option Bool :=
  match t, x, y with
  | .ptr, .nilptr, .eptr _ _ _ _ => some false
  | .ptr, .eptr _ _ _ _, .nilptr => some false
  | .ptr, .nilptr, .fptr _ _ => some false
  | .ptr, .fptr _ _, .nilptr => some false
  | .slc, _, _ => none
  | t, x, y => cmpOp t x y
def entries (L : DHeap) : AV → Option (List (AV × AV × Nat))
  | .nilmap => some []
  | .map (.n k) => match hget L k with
    | some (.map es _) => some es
    | _ => none
  | _ => none
/-- The value beside a key. -/
def lookD (z : AV) (kn : List CK) (ag ok : Bool) (L : DHeap) (m k : AV) : Option AV :=
  if keyOk kn ag k then match entries L m with
    | none => none
    | some es => match findKey kn k es 0 with
      | none => none
      | some (some (_, v)) => some (if ok then .tuple [v, .bool true] else v)
      | some none => some (if ok then .tuple [z, .bool false] else z)
  else none
def mapSetD (fl : Nat) (kn : List CK) (ag : Bool) (L : DHeap) (m k v : AV) : Option DHeap :=
  if keyOk kn ag k = true then match m with
    | .map (.n i) => match hget L i with
      | some (.map es c) => if (pur v = true ∧ pur k = true) ∨ fl ≤ i then match findKey kn k es 0 with
        | none => none
        | some (some (j, _)) => some (hset L i (.map (es.modify j fun e => (k, v, e.2.2)) c))
        | some none => some (hset L i (.map (es ++ [(k, v, c)]) (c + 1)))
        else none
      | _ => none
    | _ => none
  else none
def mapEntryD (fl : Nat) (z : AV) (kn : List CK) (ag : Bool) (L : DHeap) (m k : AV) : Option (AV × DHeap) :=
  if keyOk kn ag k = true then match m with
    | .map (.n i) => match hget L i with
      | some (.map es c) => if (pur z = true ∧ pur k = true) ∨ fl ≤ i then match findKey kn k es 0 with
        | none => none
        | some (some (j, v)) => match es[j]? with
          | some e => some (.tuple [v, .int .i64 e.2.2], hset L i (.map (es.modify j fun e => (k, e.2)) c))
          | none => none
        | some none => some (.tuple [z, .int .i64 c], hset L i (.map (es ++ [(k, z, c)]) (c + 1)))
        else none
      | _ => none
    | _ => none
  else none
def entryStoreD (fl : Nat) (L : DHeap) (m s v : AV) : Option DHeap :=
  match m, s with
  | .map (.n i), .int _ b => match hget L i with
    | some (.map es c) => if pur v = true ∨ fl ≤ i then match es.findIdx? (fun e => decide ((e.2.2 : Int) = b)) with
      | some j => some (hset L i (.map (es.modify j fun e => (e.1, v, e.2.2)) c))
      | none => none
      else none
    | _ => none
  | _, _ => none
def deleteD (kn : List CK) (ag : Bool) (L : DHeap) (m k : AV) : Option DHeap :=
  if keyOk kn ag k = true then match m with
    | .map (.n i) => match hget L i with
      | some (.map es c) => match findKey kn k es 0 with
        | none => none
        | some (some (j, _)) => some (hset L i (.map (es.eraseIdx j) c))
        | some none => some L
      | _ => none
    | _ => none
  else none
def lenMD (L : DHeap) (m : AV) : Option AV := (entries L m).map fun es => .int .i64 (es.length : Nat)
def isNil : X → Bool
  | .c .nilslc => true
  | _ => false
def nilChk : AV → Option AV
  | .ptr i o => some (.ptr i o)
  | .fptr cs o => some (.fptr cs o)
  | .eptr k v r o => some (.eptr k v r o)
  | .func f a b => some (.func f a b)
  | _ => none
def assertV (t : TypeId) (z : AV) (ok : Bool) : AV → Option AV
  | .niliface => if ok then some (.tuple [z, .bool false]) else none
  | .iface u v => if u = t then some (if ok then .tuple [v, .bool true] else v) else if ok then some (.tuple [z, .bool false]) else none
  | _ => none
def mxV (a b : AV) : Option AV :=
  match a, b with
  | .int k x, .int _ y => some (.int k (if y > x then y else x))
  | _, _ => none
def mnV (a b : AV) : Option AV :=
  match a, b with
  | .int k x, .int _ y => some (.int k (if y < x then y else x))
  | _, _ => none
def indexV (esz len : Nat) (n : Option Nat) (a i : AV) : Option AV :=
  match a, i with
  | .agg cs, .int _ k => if 0 ≤ k ∧ k < len then partA cs (k.toNat * esz) n else none
  | _, _ => none
def mkSliceD (esz bytes : Nat) (z : List AV) (L : DHeap) (l c : AV) : Option (AV × DHeap) :=
  match l, c with
  | .int _ l, .int _ c => if 0 ≤ l ∧ l ≤ c ∧ c * bytes ≤ reachB ∧ c ≤ reachB ∧ z.length = esz then
      some (.slc (.n L.length) 0 l.toNat c.toNat false, halloc L (.rows esz (List.replicate c.toNat (z.map nrm)) false)) else none
  | _, _ => none
def bsliceD (esz len : Nat) (L : DHeap) (cs : List AV) : Option (AV × DHeap) :=
  if cs.length = len * esz then some (.slc (.n L.length) 0 len len false, halloc L (.rows esz (chunks esz len (cs.map nrm)) false)) else none

/-- What an operation that calls nobody comes to. -/
def opD (E : DEnv) (fl : Nat) (o : AOp) (T : Trie AV) (L : DHeap) : Option (AV × DHeap) :=
  match o with
  | .mv x => if isNil x then some (.slc (.n L.length) 0 0 0 true, halloc L (.rows 0 [] true)) else some (ev T x, L)
  | .pick c a b => (pickF (ev T c) (ev T a) (ev T b)).map fun v => (v, L)
  | .alloc cs => some (.ptr (.n L.length) 0, halloc L (.cells cs))
  | .box x => if (ev T x).ok then some (.ptr (.n L.length) 0, halloc L (.cells (ev T x).cells)) else none
  | .build z parts => (fill T z parts).map fun cs => (.agg cs, L)
  | .bslice esz len z parts => (fill T z parts).bind (bsliceD esz len L)
  | .load n a => (loadD E L n (ev T a)).map fun v => (v, L)
  | .store n a x => (storeD fl n (ev T a) (ev T x) L).map fun L' => (.undef, L')
  | .nilCheck x => (nilChk (ev T x)).map fun v => (v, L)
  | .bin op x y => (binA op (ev T x) (ev T y)).map fun v => (v, L)
  | .cmp neg t x y => (cmpD t (ev T x) (ev T y)).map fun b => (.bool (if neg then !b else b), L)
  | .un op x => (unA op (ev T x)).map fun v => (v, L)
  | .conv k x => (convF k (ev T x)).map fun v => (v, L)
  | .mkIface t x => some (.iface t (ev T x), L)
  | .mkFunc f a b => some (.func f (a.map (ev T)) (b.map (ev T)), L)
  | .mkMap => some (.map (.n L.length), halloc L (.map [] 0))
  | .mkSlice esz bytes z l c => mkSliceD esz bytes z L (ev T l) (ev T c)
  | .slice esz x lo hi mx => (cutD esz L (ev T x) (lo.map (ev T)) (hi.map (ev T)) (mx.map (ev T))).map fun v => (v, L)
  | .fieldAddr off x => (addD off (ev T x)).map fun v => (v, L)
  | .field off n x => (fieldF off n (ev T x)).map fun v => (v, L)
  | .idxAddr esz x i => (idxD esz L (ev T x) (ev T i)).map fun v => (v, L)
  | .idxAddrA esz len x i => (idxAD esz len (ev T x) (ev T i)).map fun v => (v, L)
  | .index esz len n x i => (indexV esz len n (ev T x) (ev T i)).map fun v => (v, L)
  | .lookup z kn ag m k ok => (lookD z kn ag ok L (ev T m) (ev T k)).map fun v => (v, L)
  | .mapSet kn ag m k v => (mapSetD fl kn ag L (ev T m) (ev T k) (ev T v)).map fun L' => (.undef, L')
  | .mapEntry z kn ag m k => mapEntryD fl z kn ag L (ev T m) (ev T k)
  | .entryStore m s v => (entryStoreD fl L (ev T m) (ev T s) (ev T v)).map fun L' => (.undef, L')
  | .extract x i => (extF i (ev T x)).map fun v => (v, L)
  | .typeAssert x t z ok => (assertV t z ok (ev T x)).map fun v => (v, L)
  | .call _ _ => none
  | .bad => none
  | .lenS x => (lenV L (ev T x)).map fun (n : Nat) => (.int .i64 (n : Int), L)
  | .lenT x => match ev T x with
    | .str s => some (.int .i64 s.size, L)
    | _ => none
  | .lenM x => (lenMD L (ev T x)).map fun v => (v, L)
  | .lenA n => some (.int .i64 n, L)
  | .append esz bytes _ s x => appendD fl esz bytes L (ev T s) (ev T x)
  | .copy esz d s => copyD fl esz L (ev T d) (ev T s)
  | .clear z x => (clearD fl z L (ev T x)).map fun L' => (.undef, L')
  | .delete kn ag m k => (deleteD kn ag L (ev T m) (ev T k)).map fun L' => (.undef, L')
  | .mx a b => (mxV (ev T a) (ev T b)).map fun v => (v, L)
  | .mn a b => (mnV (ev T a) (ev T b)).map fun v => (v, L)

/-! ### calls -/
-- A value without names, as it leaves a frame.
 mutual
def frz (L : DHeap) (fl : Nat) : AV → Option AV
  | .nilslc => some (.lst [])
  | .slc (.n k) off len cap t => if fl ≤ k then match rowsV L (.slc (.n k) off len cap t) with
      | some rs => if purR rs then some (.lst rs) else none
      | none => none
    else none
  | .iface t v => (frz L fl v).map (.iface t)
  | .agg cs => (frzs L fl cs).map .agg
  | .tuple cs => (frzs L fl cs).map .tuple
  | v => if pur v then some v else none
 termination_by structural x => x
def frzs (L : DHeap) (fl : Nat) : List AV → Option (List AV)
  | [] => some []
  | v :: r => match frz L fl v, frzs L fl r with
    | some a, some l => some (a :: l)
    | _, _ => none
 termination_by structural x => x
end
/-- An argument that is looked at alone. -/
def snap1 (L : DHeap) (v : AV) : Option (AV × Bool) :=
  if pur v then some (v, false) else match v with
    | .nilslc => some (.lst [], false)
    | .slc (.n k) off len cap t => match rowsV L (.slc (.n k) off len cap t) with
      | some rs => if purR rs then some (.lst rs, true) else none
      | none => none
    | _ => none
def snaps (L : DHeap) : List AV → Option (List AV × Bool)
  | [] => some ([], false)
  | v :: r => match snap1 L v, snaps L r with
    | some (a, b), some (l, c) => some (a :: l, b || c)
    | _, _ => none

/-- Lists that are given away: their blocks are named no more. -/
def killV (v : AV) (L : DHeap) : DHeap :=
  match v with
  | .slc (.n k) _ _ _ _ => hkill L k
  | _ => L
def spent : List AV → DHeap → DHeap
  | [], L => L
  | v :: r, L => spent r (killV v L)

abbrev DCall := Nat → FuncId → List AV → DHeap → Option (AV × DHeap)
def callM (E : DEnv) (call : DCall) (fl : Nat) (g : FuncId) (args : List AV) (L : DHeap) : Option (AV × DHeap) :=
  match E.mode g with
  | .P => match snaps L args with
    | some (a, b) => match call 0 g a [] with
      | some (v, L1) => match frz L1 0 v with
        | some d => some (d, if (b && !(atomic d)) = true then spent args L else L)
        | none => none
      | none => none
    | none => none
  | .R => match call L.length g args L with
    | some (v, L1) => match frz L1 L.length v with
      | some d => some (d, L1.take L.length)
      | none => none
    | none => none
  | .S => call fl g args L
def opDC (E : DEnv) (call : DCall) (fl : Nat) (o : AOp) (T : Trie AV) (L : DHeap) : Option (AV × DHeap) :=
  match o with
  | .call f args => match ev T f with
    | .func g a b => callM E call fl g (a ++ args.map (ev T) ++ b) L
    | _ => none
  | o => opD E fl o T L
def runOpD (E : DEnv) (call : DCall) (fl : Nat) (o : AOper) (s : DSt) : Option DSt :=
  match wanted s.T o.guard with
  | some true => match opDC E call fl o.op s.T s.L with
    | some (v, L') => some (DSt.put { s with L := L' } o.dst v)
    | none => none
  | some false => some (s.put o.dst .undef)
  | none => none
def runOpsL (E : DEnv) (call : DCall) (fl : Nat) : List AOper → DSt → Option DSt
  | [], s => some s
  | o :: r, s => match runOpD E call fl o s with
    | some s' => runOpsL E call fl r s'
    | none => none
/-- A read tells what it told; and what that is hangs on nothing else. -/
def det (L : DHeap) : AV → Bool
  | .bool _ | .int _ _ | .str _ | .nilptr | .nilmap | .nilfunc | .niliface => true
  | .ptr (.n k) _ => match hget L k with
    | some (.cells _) => true
    | _ => false
  | .slc (.n k) off len cap _ => match hget L k with
    | some (.rows _ rs g) => validB rs g off len cap && !(g && rs.isEmpty)
    | _ => false
  | .eptr k ver _ _ => match hget L k with
    | some (.rows _ rs _) => Nat.beq rs.length ver
    | _ => false
  | .map (.n k) => match hget L k with
    | some (.map _ _) => true
    | _ => false
  | .agg cs => atomics cs
  | .iface _ v => atomic v
  | _ => false
def readsD (E : DEnv) (fl : Nat) (s : DSt) (o : AOper) : Bool :=
  match wanted s.T o.guard with
  | some true => match opD E fl o.op s.T s.L, o.dst with
    | some (v, L2), some d => AV.same v (St.get s.T d) && det L2 v
    | _, _ => false
  | some false => true
  | none => false
def runOpsLD (E : DEnv) (call : DCall) (fl : Nat) : List DOper → DSt → Option DSt
  | [], s => some s
  | d :: r, s => match runOpD E call fl d.o s with
    | some s' => if d.re.all (readsD E fl s') then runOpsLD E call fl r s' else none
    | none => none
def loopD (f : DSt → Option (Out × DSt)) : Nat → DSt → Option (Out × DSt)
  | 0, _ => none
  | n + 1, s => match f s with
    | some (.normal, s') => loopD f n s'
    | r => r
def runCD (E : DEnv) (call : DCall) (fl n : Nat) : ACode → DSt → Option (Out × DSt)
  | .skip, s => some (.normal, s)
  | .region ops, s => (runOpsL E call fl ops s).map fun s' => (.normal, s')
  | .regionD ops, s => (runOpsLD E call fl ops s).map fun s' => (.normal, s')
  | .seq a b, s => match runCD E call fl n a s with
    | some (.normal, s') => runCD E call fl n b s'
    | r => r
  | .cond c a b, s => match ev s.T c with
    | .bool true => runCD E call fl n a s
    | .bool false => runCD E call fl n b s
    | _ => none
  | .block id b, s => match runCD E call fl n b s with
    | some (.exit i, s') => some (if i = id then .normal else .exit i, s')
    | r => r
  | .loop b, s => loopD (runCD E call fl n b) n s
  | .exit id, s => some (.exit id, s)
  | .ret, s => some (.ret, s)
  | .bad, _ => none
def resD1 (E : DEnv) (T : Trie AV) (L : DHeap) : RV → Option AV
  | .t n => some (St.get T n)
  | .ld n a => loadD E L n (St.get T a)
def resDs (E : DEnv) (T : Trie AV) (L : DHeap) : List RV → Option (List AV)
  | [] => some []
  | r :: l => match resD1 E T L r, resDs E T L l with
    | some v, some vs => some (v :: vs)
    | _, _ => none
def resD (E : DEnv) (T : Trie AV) (L : DHeap) (l : List RV) : Option AV :=
  match resDs E T L l with
  | some [v] => some v
  | some vs => some (.tuple vs)
  | none => none
def primD : Prim → List AV → DHeap → Option (AV × DHeap)
  | .clone esz bytes, [s], L => match rowsV L s with
    | some xs =>
      let new := xs.map (·.map nrm)
      if (evenB esz new && (oneR new && roomB xs.length bytes)) = true then some (.slc (.n L.length) 0 xs.length xs.length true, halloc L (.rows esz new true)) else none
    | none => none
  | _, _, _ => none
def callD (E : DEnv) : Nat → DCall
  | 0, _, _, _, _ => none
  | n + 1, fl, f, args, L =>
    match E.prim f with
    | some p => primD p args L
    | none => match E.ft f with
    | none => none
    | some fn => match runCD E (callD E n) fl n fn.body ⟨putArgs args 0 .leaf, L⟩ with
      | some (.normal, s) | some (.ret, s) => (resD E s.T s.L fn.results).map fun v => (v, s.L)
      | _ => none
end Go.AI
