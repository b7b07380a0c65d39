/- THE DATA MACHINE, 10: rules for its operations. Own work. -/
import Derived.Test.YtmjhiaedgpikdaaB9
set_option linter.unusedSimpArgs false
set_option linter.unusedVariables false
namespace Go.AI

section
variable {E : DEnv} {call : DCall} {fl : Nat}
theorem runOpD_go (d : Option Nat) (op : AOp) (T : Trie AV) (L : DHeap) : runOpD E call fl ⟨d, op, none⟩ ⟨T, L⟩ = (opDC E call fl op T L).map (fun p => DSt.put ⟨T, p.2⟩ d p.1) := by
  unfold runOpD
  simp only [wanted]
  cases opDC E call fl op T L with
  | none => rfl
  | some p => obtain ⟨v, H'⟩ := p; rfl
def goIfD (c b : Bool) (x : Option DSt) (y : DSt) : Option DSt := if (c == b) = true then x else some y
theorem goIfD_tt (x : Option DSt) (y : DSt) : goIfD true true x y = x := rfl
theorem goIfD_ff (x : Option DSt) (y : DSt) : goIfD false false x y = x := rfl
theorem goIfD_tf (x : Option DSt) (y : DSt) : goIfD true false x y = some y := rfl
theorem goIfD_ft (x : Option DSt) (y : DSt) : goIfD false true x y = some y := rfl
def guardD (v : AV) (b : Bool) (x : Option DSt) (y : DSt) : Option DSt :=
  match v with
  | .bool c => goIfD c b x y
  | .junk => none
  | _ => some y
theorem guardD_bool (c b : Bool) (x : Option DSt) (y : DSt) : guardD (.bool c) b x y = goIfD c b x y := rfl
theorem guardD_undef (b : Bool) (x : Option DSt) (y : DSt) : guardD .undef b x y = some y := rfl
theorem guardD_tuple (l : List AV) (b : Bool) (x : Option DSt) (y : DSt) : guardD (.tuple l) b x y = some y := rfl
theorem runOpD_guard (d : Option Nat) (op : AOp) (t : Nat) (b : Bool) (T : Trie AV) (L : DHeap) :
    runOpD E call fl ⟨d, op, some (t, b)⟩ ⟨T, L⟩ = guardD (St.get T t) b ((opDC E call fl op T L).map (fun p => DSt.put ⟨T, p.2⟩ d p.1)) (DSt.put ⟨T, L⟩ d .undef) := by
  unfold runOpD
  simp only [wanted]
  cases St.get T t <;> try rfl
  rename_i c
  simp only [guardD, goIfD]
  cases hc : (c == b) with
  | false => rfl
  | true =>
    simp only [if_true]
    cases opDC E call fl op T L with
    | none => rfl
    | some p => obtain ⟨v, H'⟩ := p; rfl
theorem putD_some (T : Trie AV) (L : DHeap) (d : Nat) (v : AV) : DSt.put ⟨T, L⟩ (some d) v = ⟨T.put d (some v), L⟩ := rfl
theorem putD_none (T : Trie AV) (L : DHeap) (v : AV) : DSt.put ⟨T, L⟩ none v = ⟨T, L⟩ := rfl
def callV (E : DEnv) (call : DCall) (fl : Nat) (f : AV) (args : List AV) (L : DHeap) : Option (AV × DHeap) :=
  match f with
  | .func g a b => callM E call fl g (a ++ args ++ b) L
  | _ => none
theorem callV_func (g : FuncId) (a b args : List AV) (L : DHeap) : callV E call fl (.func g a b) args L = callM E call fl g (a ++ args ++ b) L := rfl
theorem opDC_call (f : X) (args : List X) (T : Trie AV) (L : DHeap) : opDC E call fl (.call f args) T L = callV E call fl (ev T f) (args.map (ev T)) L := by
  simp only [opDC, callV]
  cases ev T f <;> rfl
/-- A call of a function of plain data. -/
theorem callV_P {g : FuncId} {a b args : List AV} {L : DHeap} {d : AV} (hm : E.mode g = .P) {as : List AV} (hs : snaps L (a ++ args ++ b) = some (as, false)) (h : pd E g as = some d) : callV E (cd E) fl (.func g a b) args L = some (d, L) := by
  rw [callV_func, callM_P hm, hs]
  simp only [callP, h, Bool.false_and, Bool.false_eq_true, if_false]
/-- It looks at lists of one's own. -/
theorem callV_Q {g : FuncId} {a b args : List AV} {L : DHeap} {d : AV} (hm : E.mode g = .P) {as : List AV} (hs : snaps L (a ++ args ++ b) = some (as, true)) (h : pd E g as = some d) (ha : atomic d = true) : callV E (cd E) fl (.func g a b) args L = some (d, L) := by
  rw [callV_func, callM_P hm, hs]
  simp only [callP, h, ha, Bool.not_true, Bool.and_false, Bool.false_eq_true, if_false]
/-- It takes lists of one's own. -/
theorem callV_X {g : FuncId} {a b args : List AV} {L : DHeap} {d : AV} (hm : E.mode g = .P) {as : List AV} (hs : snaps L (a ++ args ++ b) = some (as, true)) (h : pd E g as = some d) (ha : atomic d = false) : callV E (cd E) fl (.func g a b) args L = some (d, spent (a ++ args ++ b) L) := by
  rw [callV_func, callM_P hm, hs]
  simp only [callP, h, ha, Bool.not_false, Bool.and_self, if_true]
theorem callV_R {g : FuncId} {a b args : List AV} {L L' : DHeap} {d : AV} (hm : E.mode g = .R) (h : rd E g (a ++ args ++ b) L = some (d, L')) : callV E (cd E) fl (.func g a b) args L = some (d, L') := by
  rw [callV_func, callM_R hm, h]
theorem callV_S {g : FuncId} {a b args : List AV} {L L' : DHeap} {d : AV} (hm : E.mode g = .S) (h : cd E fl g (a ++ args ++ b) L = some (d, L')) : callV E (cd E) fl (.func g a b) args L = some (d, L') := by
  rw [callV_func, callM_S hm, h]

theorem ok_lst (rs : List (List AV)) : (AV.lst rs).ok = true := rfl
theorem one_lst (rs : List (List AV)) : (AV.lst rs).one = true := rfl
theorem cells_lst (rs : List (List AV)) : (AV.lst rs).cells = [.lst rs] := rfl
theorem ok_fptr (cs : List AV) (o : Nat) : (AV.fptr cs o).ok = true := rfl
theorem ok_eptr (k v r o : Nat) : (AV.eptr k v r o).ok = true := rfl

section
variable {E : DEnv} {call : DCall} {fl : Nat} (T : Trie AV) (L : DHeap)
theorem dc_mv (x : X) : opDC E call fl (.mv x) T L = opD E fl (.mv x) T L := rfl
theorem dc_pick (c a b : X) : opDC E call fl (.pick c a b) T L = opD E fl (.pick c a b) T L := rfl
theorem dc_alloc (cs : List AV) : opDC E call fl (.alloc cs) T L = opD E fl (.alloc cs) T L := rfl
theorem dc_box (x : X) : opDC E call fl (.box x) T L = opD E fl (.box x) T L := rfl
theorem dc_build (z : List AV) (p : List (Nat × Nat × X)) : opDC E call fl (.build z p) T L = opD E fl (.build z p) T L := rfl
theorem dc_bslice (e l : Nat) (z : List AV) (p : List (Nat × Nat × X)) : opDC E call fl (.bslice e l z p) T L = opD E fl (.bslice e l z p) T L := rfl
theorem dc_load (n : Option Nat) (a : X) : opDC E call fl (.load n a) T L = opD E fl (.load n a) T L := rfl
theorem dc_store (n : Nat) (a x : X) : opDC E call fl (.store n a x) T L = opD E fl (.store n a x) T L := rfl
theorem dc_nilCheck (x : X) : opDC E call fl (.nilCheck x) T L = opD E fl (.nilCheck x) T L := rfl
theorem dc_bin (o : BinOp) (x y : X) : opDC E call fl (.bin o x y) T L = opD E fl (.bin o x y) T L := rfl
theorem dc_cmp (g : Bool) (t : CmpT) (x y : X) : opDC E call fl (.cmp g t x y) T L = opD E fl (.cmp g t x y) T L := rfl
theorem dc_un (o : UnOp) (x : X) : opDC E call fl (.un o x) T L = opD E fl (.un o x) T L := rfl
theorem dc_conv (k : IntKind) (x : X) : opDC E call fl (.conv k x) T L = opD E fl (.conv k x) T L := rfl
theorem dc_mkIface (t : TypeId) (x : X) : opDC E call fl (.mkIface t x) T L = opD E fl (.mkIface t x) T L := rfl
theorem dc_mkFunc (f : FuncId) (a b : List X) : opDC E call fl (.mkFunc f a b) T L = opD E fl (.mkFunc f a b) T L := rfl
theorem dc_mkMap  : opDC E call fl (.mkMap ) T L = opD E fl (.mkMap ) T L := rfl
theorem dc_mkSlice (e b : Nat) (z : List AV) (l c : X) : opDC E call fl (.mkSlice e b z l c) T L = opD E fl (.mkSlice e b z l c) T L := rfl
theorem dc_slice (e : Nat) (x : X) (l h m : Option X) : opDC E call fl (.slice e x l h m) T L = opD E fl (.slice e x l h m) T L := rfl
theorem dc_fieldAddr (o : Nat) (x : X) : opDC E call fl (.fieldAddr o x) T L = opD E fl (.fieldAddr o x) T L := rfl
theorem dc_field (o : Nat) (n : Option Nat) (x : X) : opDC E call fl (.field o n x) T L = opD E fl (.field o n x) T L := rfl
theorem dc_idxAddr (e : Nat) (x i : X) : opDC E call fl (.idxAddr e x i) T L = opD E fl (.idxAddr e x i) T L := rfl
theorem dc_idxAddrA (e l : Nat) (x i : X) : opDC E call fl (.idxAddrA e l x i) T L = opD E fl (.idxAddrA e l x i) T L := rfl
theorem dc_index (e l : Nat) (n : Option Nat) (x i : X) : opDC E call fl (.index e l n x i) T L = opD E fl (.index e l n x i) T L := rfl
theorem dc_lookup (z : AV) (kn : List CK) (ag : Bool) (m k : X) (ok : Bool) : opDC E call fl (.lookup z kn ag m k ok) T L = opD E fl (.lookup z kn ag m k ok) T L := rfl
theorem dc_mapSet (kn : List CK) (ag : Bool) (m k v : X) : opDC E call fl (.mapSet kn ag m k v) T L = opD E fl (.mapSet kn ag m k v) T L := rfl
theorem dc_mapEntry (z : AV) (kn : List CK) (ag : Bool) (m k : X) : opDC E call fl (.mapEntry z kn ag m k) T L = opD E fl (.mapEntry z kn ag m k) T L := rfl
theorem dc_entryStore (m s v : X) : opDC E call fl (.entryStore m s v) T L = opD E fl (.entryStore m s v) T L := rfl
theorem dc_extract (x : X) (i : Nat) : opDC E call fl (.extract x i) T L = opD E fl (.extract x i) T L := rfl
theorem dc_typeAssert (x : X) (t : TypeId) (z : AV) (ok : Bool) : opDC E call fl (.typeAssert x t z ok) T L = opD E fl (.typeAssert x t z ok) T L := rfl
theorem dc_lenS (x : X) : opDC E call fl (.lenS x) T L = opD E fl (.lenS x) T L := rfl
theorem dc_lenT (x : X) : opDC E call fl (.lenT x) T L = opD E fl (.lenT x) T L := rfl
theorem dc_lenM (x : X) : opDC E call fl (.lenM x) T L = opD E fl (.lenM x) T L := rfl
theorem dc_lenA (n : Nat) : opDC E call fl (.lenA n) T L = opD E fl (.lenA n) T L := rfl
theorem dc_append (e b : Nat) (z : List AV) (s x : X) : opDC E call fl (.append e b z s x) T L = opD E fl (.append e b z s x) T L := rfl
theorem dc_copy (e : Nat) (d s : X) : opDC E call fl (.copy e d s) T L = opD E fl (.copy e d s) T L := rfl
theorem dc_clear (z : List AV) (x : X) : opDC E call fl (.clear z x) T L = opD E fl (.clear z x) T L := rfl
theorem dc_delete (kn : List CK) (ag : Bool) (m k : X) : opDC E call fl (.delete kn ag m k) T L = opD E fl (.delete kn ag m k) T L := rfl
theorem dc_mx (a b : X) : opDC E call fl (.mx a b) T L = opD E fl (.mx a b) T L := rfl
theorem dc_mn (a b : X) : opDC E call fl (.mn a b) T L = opD E fl (.mn a b) T L := rfl
end
/-- A read is looked at again. -/
def rereadD (r : Option (AV × DHeap)) (v : AV) : Bool :=
  match r with
  | some (u, L) => AV.same u v && det L u
  | none => false
theorem readsD_go (d : Nat) (op : AOp) (T : Trie AV) (L : DHeap) : readsD E fl ⟨T, L⟩ ⟨some d, op, none⟩ = rereadD (opD E fl op T L) (St.get T d) := by
  simp only [readsD, wanted, rereadD]
  cases opD E fl op T L <;> rfl
def ifRead (v : AV) (b : Bool) (x : Bool) : Bool :=
  match v with
  | .bool c => if (c == b) = true then x else true
  | .junk => false
  | _ => true
theorem ifRead_tt (x : Bool) : ifRead (.bool true) true x = x := rfl
theorem ifRead_ff (x : Bool) : ifRead (.bool false) false x = x := rfl
theorem ifRead_tf (x : Bool) : ifRead (.bool true) false x = true := rfl
theorem ifRead_ft (x : Bool) : ifRead (.bool false) true x = true := rfl
theorem ifRead_undef (b x : Bool) : ifRead .undef b x = true := rfl
theorem ifRead_tuple (l : List AV) (b x : Bool) : ifRead (.tuple l) b x = true := rfl
theorem readsD_guard (d : Nat) (op : AOp) (t : Nat) (b : Bool) (T : Trie AV) (L : DHeap) : readsD E fl ⟨T, L⟩ ⟨some d, op, some (t, b)⟩ = ifRead (St.get T t) b (rereadD (opD E fl op T L) (St.get T d)) := by
  simp only [readsD, wanted, rereadD]
  cases St.get T t <;> try rfl
  rename_i c
  simp only [ifRead]
  cases hc : (c == b) with
  | false => rfl
  | true =>
    simp only [if_true]
    cases opD E fl op T L <;> rfl
theorem rereadD_int (k : IntKind) (n : Int) (L : DHeap) : rereadD (some (.int k n, L)) (.int k n) = true := by simp [rereadD, AV.same, det]
theorem rereadD_bool (b : Bool) (L : DHeap) : rereadD (some (.bool b, L)) (.bool b) = true := by cases b <;> rfl
theorem rereadD_agg (cs : List AV) (L : DHeap) : rereadD (some (.agg cs, L)) (.agg cs) = atomics cs := by
  cases h : atomics cs with
  | true => simp [rereadD, AV.same, det, atomics_same h, h]
  | false => simp [rereadD, det, h]

/-! ### the heap -/
theorem hget_nil (k : Nat) : hget [] k = none := by simp [hget]
theorem hget_hset' (L : DHeap) (k j : Nat) (b : DBlk) : hget (hset L k b) j = if j = k ∧ k < L.length then some b else hget L j := by
  by_cases hk : k < L.length
  · rw [hget_hset _ _ _ hk]; simp [hk]
  · have : hset L k b = L := by unfold hset; exact List.set_eq_of_length_le (by omega)
    rw [this]; simp [hk]
theorem hset_halloc (L : DHeap) (b c : DBlk) (k : Nat) : hset (halloc L b) k c = if k = L.length then halloc L c else halloc (hset L k c) b := by
  unfold hset halloc
  rw [List.set_append]
  by_cases h : k < L.length
  · rw [if_pos h, if_neg (by omega)]
  · rw [if_neg h]
    by_cases h2 : k = L.length
    · subst h2; simp
    · rw [if_neg h2, List.set_eq_of_length_le (by simp; omega), List.set_eq_of_length_le (by omega)]
theorem hset_hset (L : DHeap) (k : Nat) (b c : DBlk) : hset (hset L k b) k c = hset L k c := by simp [hset]
theorem hset_same {L : DHeap} {k : Nat} {b : DBlk} (h : hget L k = some b) : hset L k b = L := by
  have hk := hget_lt h
  unfold hset
  unfold hget at h
  have : L[k]? = some (some b) := by
    cases e : L[k]? with
    | none => rw [e] at h; cases h
    | some x => rw [e] at h; simp at h; rw [h]
  rw [List.getElem?_eq_getElem hk] at this
  injection this with this
  rw [← this]
  exact List.set_getElem_self hk
theorem take_halloc (L : DHeap) (b : DBlk) (n : Nat) : (halloc L b).take n = if n ≤ L.length then L.take n else halloc L b := by
  unfold halloc
  rw [List.take_append]
  by_cases h : n ≤ L.length
  · rw [if_pos h, Nat.sub_eq_zero_of_le h, List.take_zero, List.append_nil]
  · rw [if_neg h, List.take_of_length_le (by omega), List.take_of_length_le (by simp; omega)]
theorem take_hset (L : DHeap) (k : Nat) (b : DBlk) (n : Nat) : (hset L k b).take n = if n ≤ k then L.take n else hset (L.take n) k b := by
  unfold hset
  rw [List.take_set]
  by_cases h : n ≤ k
  · rw [if_pos h, List.set_eq_of_length_le (by rw [List.length_take]; omega)]
  · rw [if_neg h]
/-- What was there stays. -/
def Kept (L L' : DHeap) : Prop := L.length ≤ L'.length ∧ ∀ k, k < L.length → L'[k]? = L[k]?
theorem Kept.refl (L : DHeap) : Kept L L := ⟨Nat.le_refl _, fun _ _ => rfl⟩
theorem Kept.trans {L M N : DHeap} (h : Kept L M) (k : Kept M N) : Kept L N := ⟨Nat.le_trans h.1 k.1, fun i hi => (k.2 i (Nat.lt_of_lt_of_le hi h.1)).trans (h.2 i hi)⟩
theorem Kept.alloc (L : DHeap) (b : DBlk) : Kept L (halloc L b) := ⟨by rw [length_halloc]; omega, fun k hk => by unfold halloc; rw [List.getElem?_append_left hk]⟩
theorem Kept.set {L M : DHeap} (h : Kept L M) {k : Nat} (b : DBlk) (hk : L.length ≤ k) : Kept L (hset M k b) := ⟨by rw [length_hset]; exact h.1, fun i hi => by unfold hset; rw [List.getElem?_set_ne (by omega)]; exact h.2 i hi⟩
theorem Kept.take {L M : DHeap} (h : Kept L M) : M.take L.length = L := by
  apply List.ext_getElem?
  intro i
  rw [List.getElem?_take]
  by_cases hi : i < L.length
  · rw [if_pos hi, h.2 i hi]
  · rw [if_neg hi, List.getElem?_eq_none (by omega)]
theorem Kept.get {L M : DHeap} (h : Kept L M) {k : Nat} {b : DBlk} (hb : hget L k = some b) : hget M k = some b := by
  have := h.2 k (hget_lt hb)
  unfold hget at hb ⊢
  rw [this]
  exact hb

/-! ### reading -/
def segOf (b : Option DBlk) (off n : Nat) : Option (List AV) :=
  match b with
  | some (.cells cs) => seg cs off n
  | _ => none
theorem segOf_some (cs : List AV) (off n : Nat) : segOf (some (.cells cs)) off n = seg cs off n := rfl
def rowOf (b : Option DBlk) (ver row off n : Nat) : Option (List AV) :=
  match b with
  | some (.rows _ rs _) => if Nat.beq rs.length ver then match rs[row]? with
      | some r => seg r off n
      | none => none
    else none
  | _ => none
def segRow (r : Option (List AV)) (off n : Nat) : Option (List AV) :=
  match r with
  | some r => seg r off n
  | none => none
theorem segRow_some (r : List AV) (off n : Nat) : segRow (some r) off n = seg r off n := rfl
theorem rowOf_some (e : Nat) (rs : List (List AV)) (g : Bool) (ver row off n : Nat) : rowOf (some (.rows e rs g)) ver row off n = if rs.length = ver then segRow rs[row]? off n else none := by
  simp only [rowOf, segRow]
  by_cases h : rs.length = ver
  · simp [h]
  · rw [if_neg h]
    have : Nat.beq rs.length ver = false := by
      cases e : Nat.beq rs.length ver with
      | false => rfl
      | true => exact absurd (Nat.eq_of_beq_eq_true e) h
    simp [this]
theorem readN_ptr (L : DHeap) (n k off : Nat) : readN E L n (.ptr (.n k) off) = segOf (hget L k) off n := by
  simp only [readN, segOf]
  rfl
theorem readN_fptr (L : DHeap) (n off : Nat) (cs : List AV) : readN E L n (.fptr cs off) = seg cs off n := rfl
theorem readN_eptr (L : DHeap) (n k ver row off : Nat) : readN E L n (.eptr k ver row off) = rowOf (hget L k) ver row off n := by
  simp only [readN, rowOf]
  rfl
theorem loadD_agg (L : DHeap) (n : Nat) (a : AV) : loadD E L (some n) a = (readN E L n a).map .agg := rfl
theorem loadD_one (L : DHeap) (a : AV) : loadD E L none a = oneOf (readN E L 1 a) := by
  simp only [loadD, oneOf]
  cases readN E L 1 a with
  | none => rfl
  | some l => cases l with
    | nil => rfl
    | cons v l => cases l <;> rfl
def rowP (esz : Nat) (r : Option (List AV)) : Option AV :=
  match r with
  | some r => if r.length = esz then some (.fptr r 0) else none
  | none => none
theorem rowP_some (esz : Nat) (r : List AV) : rowP esz (some r) = if r.length = esz then some (.fptr r 0) else none := rfl
theorem rowP_ok {esz : Nat} {r : List AV} (h : r.length = esz) : rowP esz (some r) = some (.fptr r 0) := by rw [rowP_some, if_pos h]
theorem idxD_lst (esz : Nat) (L : DHeap) (rs : List (List AV)) (k : IntKind) (n : Int) : idxD esz L (.lst rs) (.int k n) = if 0 ≤ n then rowP esz rs[n.toNat]? else none := by
  simp only [idxD, rowP]
  rfl
def idxB (esz : Nat) (b : Option DBlk) (k off len cap i : Nat) : Option AV :=
  match b with
  | some (.rows e rs g) => if validB rs g off len cap = true ∧ e = esz ∧ i < len then some (.eptr k rs.length (off + i) 0) else none
  | _ => none
theorem idxB_some (esz e : Nat) (rs : List (List AV)) (g : Bool) (k off len cap i : Nat) : idxB esz (some (.rows e rs g)) k off len cap i = if validB rs g off len cap = true ∧ e = esz ∧ i < len then some (.eptr k rs.length (off + i) 0) else none := rfl
theorem idxD_slc (esz : Nat) (L : DHeap) (k off len cap : Nat) (t : Bool) (kk : IntKind) (n : Int) : idxD esz L (.slc (.n k) off len cap t) (.int kk n) = if 0 ≤ n then idxB esz (hget L k) k off len cap n.toNat else none := by
  simp only [idxD, idxB]
  rfl
theorem addD_ptr (off : Nat) (i : Id) (o : Nat) : addD off (.ptr i o) = some (.ptr i (o + off)) := rfl
theorem addD_fptr (off : Nat) (cs : List AV) (o : Nat) : addD off (.fptr cs o) = some (.fptr cs (o + off)) := rfl
theorem addD_eptr (off k v r o : Nat) : addD off (.eptr k v r o) = some (.eptr k v r (o + off)) := rfl
theorem lenV_lst (L : DHeap) (rs : List (List AV)) : lenV L (.lst rs) = some rs.length := rfl
theorem lenV_nil (L : DHeap) : lenV L .nilslc = some 0 := rfl
def lenB (b : Option DBlk) (off len cap : Nat) : Option Nat :=
  match b with
  | some (.rows _ rs g) => if validB rs g off len cap then some len else none
  | _ => none
theorem lenB_some (e : Nat) (rs : List (List AV)) (g : Bool) (off len cap : Nat) : lenB (some (.rows e rs g)) off len cap = if validB rs g off len cap = true then some len else none := rfl
theorem lenV_slc (L : DHeap) (k off len cap : Nat) (t : Bool) : lenV L (.slc (.n k) off len cap t) = lenB (hget L k) off len cap := by
  simp only [lenV, lenB]
  rfl
theorem rowsV_lst (L : DHeap) (rs : List (List AV)) : rowsV L (.lst rs) = some rs := rfl
theorem rowsV_nil (L : DHeap) : rowsV L .nilslc = some [] := rfl
def rowsB (b : Option DBlk) (off len cap : Nat) : Option (List (List AV)) :=
  match b with
  | some (.rows _ rs g) => if validB rs g off len cap then some ((rs.drop off).take len) else none
  | _ => none
theorem rowsB_some (e : Nat) (rs : List (List AV)) (g : Bool) (off len cap : Nat) : rowsB (some (.rows e rs g)) off len cap = if validB rs g off len cap = true then some ((rs.drop off).take len) else none := rfl
theorem rowsV_slc (L : DHeap) (k off len cap : Nat) (t : Bool) : rowsV L (.slc (.n k) off len cap t) = rowsB (hget L k) off len cap := by
  simp only [rowsV, rowsB]
  rfl
theorem validB_t (rs : List (List AV)) (off len cap : Nat) : validB rs true off len cap = (decide (off + cap = rs.length) && decide (len ≤ cap)) := by
  rw [Bool.eq_iff_iff]
  simp [validB, Nat.ble_eq]
theorem validB_f (rs : List (List AV)) (off len cap : Nat) : validB rs false off len cap = (decide (off + cap ≤ rs.length) && decide (len ≤ cap)) := by
  rw [Bool.eq_iff_iff]
  simp [validB, Nat.ble_eq]

/-! ### writing -/
def stC (fl n k off : Nat) (cs : List AV) (L : DHeap) (b : Option DBlk) : Option DHeap :=
  match b with
  | some (.cells bs) => if off + n ≤ bs.length ∧ (purs cs = true ∨ fl ≤ k) then some (hset L k (.cells (lay bs off cs))) else none
  | _ => none
theorem stC_some (fl n k off : Nat) (cs : List AV) (L : DHeap) (bs : List AV) : stC fl n k off cs L (some (.cells bs)) = if off + n ≤ bs.length ∧ (purs cs = true ∨ fl ≤ k) then some (hset L k (.cells (lay bs off cs))) else none := rfl
theorem storeD_ptr (fl n k off : Nat) (x : AV) (L : DHeap) : storeD fl n (.ptr (.n k) off) x L = if x.ok = true ∧ x.cells.length = n ∧ x.cells.all AV.one = true then stC fl n k off x.cells L (hget L k) else none := by
  simp only [storeD, stC]
  rfl
def stR (fl n k ver row off : Nat) (cs : List AV) (L : DHeap) (b : Option DBlk) : Option DHeap :=
  match b with
  | some (.rows e rs g) => if rs.length = ver then match rs[row]? with
    | some r => if off + n ≤ r.length ∧ (purs (cs.map nrm) = true ∨ fl ≤ k) then some (hset L k (.rows e (rs.set row (lay r off (cs.map nrm))) g)) else none
    | none => none
    else none
  | _ => none
theorem storeD_eptr (fl n k ver row off : Nat) (x : AV) (L : DHeap) : storeD fl n (.eptr k ver row off) x L = if x.ok = true ∧ x.cells.length = n ∧ x.cells.all AV.one = true then stR fl n k ver row off x.cells L (hget L k) else none := by
  simp only [storeD, stR]
  rfl
theorem stR_some {fl n k row off : Nat} {cs : List AV} {L : DHeap} {e : Nat} {rs : List (List AV)} {g : Bool} {r : List AV} (hr : rs[row]? = some r) (hle : off + n ≤ r.length) (hp : purs (cs.map nrm) = true ∨ fl ≤ k) :
    stR fl n k rs.length row off cs L (some (.rows e rs g)) = some (hset L k (.rows e (rs.set row (lay r off (cs.map nrm))) g)) := by
  simp only [stR, if_true, hr]
  rw [if_pos ⟨hle, hp⟩]

/-! ### rows of plain cells -/
def okRow (n : Nat) (r : List AV) : Bool := Nat.beq r.length n && (r.all AV.one && purs r)
def okR (n : Nat) : List (List AV) → Bool
  | [] => true
  | r :: l => okRow n r && okR n l
theorem okR_iff {n : Nat} : ∀ {rs : List (List AV)}, okR n rs = true ↔ ∀ r ∈ rs, okRow n r = true
  | [] => ⟨fun _ r h => (nomatch h), fun _ => rfl⟩
  | r :: rs => by
    unfold okR
    rw [Bool.and_eq_true, okR_iff (rs := rs)]
    constructor
    · rintro ⟨h1, h2⟩ x hx
      rcases List.mem_cons.1 hx with rfl | hx
      · exact h1
      · exact h2 x hx
    · exact fun h => ⟨h r List.mem_cons_self, fun x hx => h x (List.mem_cons_of_mem _ hx)⟩
theorem okR_nil (n : Nat) : okR n [] = true := rfl
theorem okR_cons (n : Nat) (r : List AV) (rs : List (List AV)) : okR n (r :: rs) = (okRow n r && okR n rs) := rfl
theorem okR_map {α : Type} {n : Nat} {f : α → List AV} (h : ∀ x, okRow n (f x) = true) (l : List α) : okR n (l.map f) = true := by
  rw [okR_iff]
  intro r hr
  obtain ⟨x, _, rfl⟩ := List.mem_map.1 hr
  exact h x
theorem okR_append {n : Nat} {a b : List (List AV)} (h : okR n a = true) (k : okR n b = true) : okR n (a ++ b) = true := by
  rw [okR_iff] at h k ⊢
  intro r hr
  rcases List.mem_append.1 hr with hr | hr
  · exact h r hr
  · exact k r hr
theorem okR_sub {n : Nat} {a b : List (List AV)} (h : okR n a = true) (k : ∀ r ∈ b, r ∈ a) : okR n b = true := by
  rw [okR_iff] at h ⊢
  exact fun r hr => h r (k r hr)
theorem okRow_len {n : Nat} {r : List AV} (h : okRow n r = true) : r.length = n := by
  unfold okRow at h
  rw [Bool.and_eq_true] at h
  exact Nat.eq_of_beq_eq_true h.1
theorem okR_even {n : Nat} {rs : List (List AV)} (h : okR n rs = true) : evenB n rs = true := by
  rw [evenB_iff]
  rw [okR_iff] at h
  exact fun r hr => okRow_len (h r hr)
theorem okR_one {n : Nat} {rs : List (List AV)} (h : okR n rs = true) : oneR rs = true := by
  rw [oneR_iff, List.all_eq_true]
  rw [okR_iff] at h
  intro v hv
  obtain ⟨r, hr, hv⟩ := List.mem_flatten.1 hv
  have := h r hr
  unfold okRow at this
  rw [Bool.and_eq_true, Bool.and_eq_true] at this
  exact List.all_eq_true.1 this.2.1 v hv
theorem okR_pur {n : Nat} {rs : List (List AV)} (h : okR n rs = true) : purR rs = true := by
  rw [purR_iff]
  rw [okR_iff] at h
  intro r hr
  have := h r hr
  unfold okRow at this
  rw [Bool.and_eq_true, Bool.and_eq_true] at this
  exact this.2.2
theorem nrm_pur {v : AV} (h : pur v = true) : nrm v = v := by
  cases v <;> first
    | rfl
    | cases h
theorem map_nrm {r : List AV} (h : purs r = true) : r.map nrm = r := by
  rw [purs_iff] at h
  conv => rhs; rw [← List.map_id r]
  exact List.map_congr_left fun v hv => nrm_pur (h v hv)
theorem mapR_nrm {rs : List (List AV)} (h : purR rs = true) : rs.map (·.map nrm) = rs := by
  rw [purR_iff] at h
  conv => rhs; rw [← List.map_id rs]
  exact List.map_congr_left fun r hr => map_nrm (h r hr)

/-- Something is appended to a list of one's own. -/
theorem appendD_own {esz bytes : Nat} {L : DHeap} {k e : Nat} {xs ys : List (List AV)} {x : AV} (hk : hget L k = some (.rows e xs true)) (hx : rowsV L x = some ys) (he : xs = [] ∨ e = esz) (hy : okR esz ys = true)
    {n : Nat} (hn : xs.length = n) (h1 : (n + ys.length) * bytes ≤ reachB) (h2 : n + ys.length ≤ reachB) :
    ∃ L', appendD fl esz bytes L (.slc (.n k) 0 n n true) x = some (.slc (.n k) 0 (n + ys.length) (n + ys.length) true, L') ∧
      (∃ e', (xs ++ ys = [] ∨ e' = esz) ∧ hget L' k = some (.rows e' (xs ++ ys) true)) ∧ L'.length = L.length ∧ (∀ j, j ≠ k → L'[j]? = L[j]?) := by
  have hlt := hget_lt hk
  have hv : validB xs true 0 n n = true := by rw [validB_t]; simp [hn]
  unfold appendD
  simp only [hx, mapR_nrm (okR_pur hy), okR_even hy, okR_one hy, Bool.and_self, if_true, hk, hv]
  by_cases h0 : ys.length = 0
  · have : ys = [] := List.eq_nil_of_length_eq_zero h0
    subst this
    refine ⟨L, ?_, ⟨e, ?_, by simpa using hk⟩, rfl, fun _ _ => rfl⟩
    · simp [okR_pur hy]
    · simpa using he
  · refine ⟨hset L k (.rows esz (xs ++ ys) true), ?_, ⟨esz, .inr rfl, by rw [hget_hset _ _ _ hlt, if_pos rfl]⟩, length_hset _ _ _, fun j hj => by unfold hset; rw [List.getElem?_set_ne (fun e => hj e.symm)]⟩
    rw [if_neg (by omega), if_pos ⟨roomB_iff.2 ⟨h1, h2⟩, he⟩, if_pos ⟨trivial, .inl (okR_pur hy)⟩]
    simp only [if_true, List.take_of_length_le (show xs.length ≤ n by omega)]
theorem appendD_own1 {esz bytes : Nat} {L : DHeap} {k e : Nat} {xs : List (List AV)} {r : List AV} {x : AV} (hk : hget L k = some (.rows e xs true)) (hx : rowsV L x = some [r]) (he : xs = [] ∨ e = esz) (hy : okRow esz r = true)
    {n : Nat} (hn : xs.length = n) (h1 : (n + 1) * bytes ≤ reachB) (h2 : n + 1 ≤ reachB) :
    appendD fl esz bytes L (.slc (.n k) 0 n n true) x = some (.slc (.n k) 0 (n + 1) (n + 1) true, hset L k (.rows esz (xs ++ [r]) true)) := by
  have hy' : okR esz [r] = true := by rw [okR_cons, hy]; rfl
  have hv : validB xs true 0 n n = true := by rw [validB_t]; simp [hn]
  unfold appendD
  simp only [hx, mapR_nrm (okR_pur hy'), okR_even hy', okR_one hy', Bool.and_self, if_true, hk, hv, List.length_cons, List.length_nil, Nat.zero_add]
  rw [if_neg (by omega), if_pos ⟨roomB_iff.2 ⟨h1, h2⟩, he⟩, if_pos ⟨trivial, .inl (okR_pur hy')⟩]
  simp only [if_true, List.take_of_length_le (show xs.length ≤ n by omega)]
theorem frz_own {L : DHeap} {fl k e : Nat} {xs : List (List AV)} (hk : hget L k = some (.rows e xs true)) (hf : fl ≤ k) (hp : purR xs = true) {n : Nat} (hn : xs.length = n) : frz L fl (.slc (.n k) 0 n n true) = some (.lst xs) := by
  have hv : validB xs true 0 n n = true := by rw [validB_t]; simp [hn]
  unfold frz
  rw [if_pos hf]
  simp only [rowsV, hk, hv, if_true, List.drop_zero, List.take_of_length_le (show xs.length ≤ n by omega), hp]
end
 mutual
theorem frz_pur (L : DHeap) (fl : Nat) : ∀ {v : AV}, pur v = true → frz L fl v = some v
  | .bool _, _ => rfl
  | .int _ _, _ => rfl
  | .str _, _ => rfl
  | .nilptr, _ => rfl
  | .nilmap, _ => rfl
  | .nilfunc, _ => rfl
  | .niliface, _ => rfl
  | .lst _, _ => rfl
  | .func f a b, h => by
    show (if pur (.func f a b) then some (AV.func f a b) else none) = _
    rw [if_pos h]
  | .iface t v, h => by
    show (frz L fl v).map (AV.iface t) = _
    rw [frz_pur L fl (v := v) h]
    rfl
  | .agg cs, h => by
    show (frzs L fl cs).map AV.agg = _
    rw [frzs_pur L fl (l := cs) h]
    rfl
  | .tuple cs, h => by
    show (frzs L fl cs).map AV.tuple = _
    rw [frzs_pur L fl (l := cs) h]
    rfl
  | .nilslc, h => by cases h
  | .ptr _ _, h => by cases h
  | .slc _ _ _ _ _, h => by cases h
  | .map _, h => by cases h
  | .fptr _ _, h => by cases h
  | .eptr _ _ _ _, h => by cases h
  | .junk, h => by cases h
 termination_by structural x => x
theorem frzs_pur (L : DHeap) (fl : Nat) : ∀ {l : List AV}, purs l = true → frzs L fl l = some l
  | [], _ => rfl
  | v :: l, h => by
    have h : (pur v && purs l) = true := h
    rw [Bool.and_eq_true] at h
    show (match frz L fl v, frzs L fl l with
    | some a, some l => some (a :: l)
    | _, _ => none) = _
    rw [frz_pur L fl h.1, frzs_pur L fl h.2]
 termination_by structural x => x
end
theorem snap1_pur (L : DHeap) {v : AV} (h : pur v = true) : snap1 L v = some (v, false) := by
  unfold snap1
  rw [if_pos h]
theorem snaps_pur (L : DHeap) : ∀ {l : List AV}, purs l = true → snaps L l = some (l, false)
  | [], _ => rfl
  | v :: l, h => by
    have h : (pur v && purs l) = true := h
    rw [Bool.and_eq_true] at h
    simp only [snaps, snap1_pur L h.1, snaps_pur L h.2, Bool.or_self]
theorem frz_bool (L : DHeap) (fl : Nat) (b : Bool) : frz L fl (.bool b) = some (.bool b) := rfl
theorem frz_int (L : DHeap) (fl : Nat) (k : IntKind) (n : Int) : frz L fl (.int k n) = some (.int k n) := rfl
theorem frz_str (L : DHeap) (fl : Nat) (s : ByteArray) : frz L fl (.str s) = some (.str s) := rfl
theorem frz_nilptr (L : DHeap) (fl : Nat) : frz L fl .nilptr = some .nilptr := rfl
theorem frz_nilslc (L : DHeap) (fl : Nat) : frz L fl .nilslc = some (.lst []) := rfl
theorem frz_niliface (L : DHeap) (fl : Nat) : frz L fl .niliface = some .niliface := rfl
theorem frz_lst (L : DHeap) (fl : Nat) (rs : List (List AV)) : frz L fl (.lst rs) = some (.lst rs) := rfl
theorem frz_iface (L : DHeap) (fl : Nat) (t : TypeId) (v : AV) : frz L fl (.iface t v) = (frz L fl v).map (.iface t) := rfl
theorem frz_agg (L : DHeap) (fl : Nat) (cs : List AV) : frz L fl (.agg cs) = (frzs L fl cs).map .agg := rfl
theorem frz_tuple (L : DHeap) (fl : Nat) (cs : List AV) : frz L fl (.tuple cs) = (frzs L fl cs).map .tuple := rfl
def consO (a : Option AV) (l : Option (List AV)) : Option (List AV) :=
  match a, l with
  | some a, some l => some (a :: l)
  | _, _ => none
theorem consO_some (a : AV) (l : List AV) : consO (some a) (some l) = some (a :: l) := rfl
theorem frzs_nil (L : DHeap) (fl : Nat) : frzs L fl [] = some [] := rfl
theorem frzs_cons (L : DHeap) (fl : Nat) (v : AV) (r : List AV) : frzs L fl (v :: r) = consO (frz L fl v) (frzs L fl r) := rfl

def frz0 (b : Option DBlk) : Option AV :=
  match b with
  | some (.rows _ rs g) => if (g && !rs.isEmpty) = true then none else some (.lst [])
  | _ => none
theorem frz0_some (e : Nat) : frz0 (some (.rows e [] true)) = some (.lst []) := rfl
theorem frz_slc0 (L : DHeap) (fl k : Nat) : frz L fl (.slc (.n k) 0 0 0 true) = if fl ≤ k then frz0 (hget L k) else none := by
  unfold frz
  simp only [rowsV_slc]
  split
  · cases hget L k with
    | none => rfl
    | some b =>
      cases b with
      | cells _ => rfl
      | map _ _ => rfl
      | rows e rs g =>
        cases rs with
        | nil => cases g <;> rfl
        | cons r rs =>
          cases g
          · simp [rowsB_some, validB_f, frz0, purR]
          · simp [rowsB_some, validB_t, frz0]
  · rfl
/-! ### a list of one's own -/
/-- A slice of one's own: the first n rows of a block of so many. -/
structure Own (L : DHeap) (k esz : Nat) (xs : List (List AV)) (n cap : Nat) : Prop where
  get : ∃ e rs, hget L k = some (.rows e rs true) ∧ rs.length = cap ∧ (rs = [] ∨ e = esz) ∧ okR esz rs = true ∧ rs.take n = xs
  le : n ≤ cap
  len : xs.length = n
section
variable {E : DEnv} {L : DHeap} {k esz n cap : Nat} {xs : List (List AV)}
theorem Own.lt (h : Own L k esz xs n cap) : k < L.length := by obtain ⟨e, rs, h1, _⟩ := h.get; exact hget_lt h1
theorem Own.ok (h : Own L k esz xs n cap) : okR esz xs = true := by
  obtain ⟨e, rs, h1, h2, h3, h4, h5⟩ := h.get
  rw [← h5]
  exact okR_sub h4 fun r hr => List.mem_of_mem_take hr
theorem valid_own {rs : List (List AV)} (h : rs.length = cap) (hle : n ≤ cap) : validB rs true 0 n cap = true := by rw [validB_t]; simp [h, hle]
theorem Own.lenV (h : Own L k esz xs n cap) : Go.AI.lenV L (.slc (.n k) 0 n cap true) = some n := by
  obtain ⟨e, rs, h1, h2, _⟩ := h.get
  rw [lenV_slc, h1, lenB_some, if_pos (valid_own h2 h.le)]
theorem Own.rows (h : Own L k esz xs n cap) : rowsV L (.slc (.n k) 0 n cap true) = some xs := by
  obtain ⟨e, rs, h1, h2, _, _, h5⟩ := h.get
  rw [rowsV_slc, h1, rowsB_some, if_pos (valid_own h2 h.le), List.drop_zero, h5]
theorem Own.idx (h : Own L k esz xs n cap) {j : Nat} (hj : j < n) (kk : IntKind) : idxD esz L (.slc (.n k) 0 n cap true) (.int kk (j : Int)) = some (.eptr k cap j 0) := by
  obtain ⟨e, rs, h1, h2, h3, _⟩ := h.get
  have hne : rs ≠ [] := by intro e0; have := h.le; rw [← h2, e0] at this; simp at this; omega
  rw [idxD_slc, if_pos (by omega), h1, idxB_some, if_pos ⟨valid_own h2 h.le, h3.resolve_left hne, by simpa using hj⟩, h2]
  simp
theorem Own.rowLen (h : Own L k esz xs n cap) {j : Nat} {x : List AV} (hx : xs[j]? = some x) : x.length = esz := okRow_len (okR_iff.1 h.ok x (List.mem_of_getElem? hx))
theorem Own.inBlk (h : Own L k esz xs n cap) {rs : List (List AV)} (hr : rs.take n = xs) {j : Nat} {x : List AV} (hx : xs[j]? = some x) : rs[j]? = some x := by
  rw [← hr, List.getElem?_take] at hx
  split at hx
  · exact hx
  · cases hx
theorem Own.read (h : Own L k esz xs n cap) {j : Nat} {x : List AV} (hx : xs[j]? = some x) (p m : Nat) : readN E L m (.eptr k cap j p) = seg x p m := by
  obtain ⟨e, rs, h1, h2, _, _, h5⟩ := h.get
  rw [readN_eptr, h1, rowOf_some, if_pos h2, h.inBlk h5 hx, segRow_some]
theorem Own.snap (h : Own L k esz xs n cap) : snap1 L (.slc (.n k) 0 n cap true) = some (.lst xs, true) := by
  unfold snap1
  rw [if_neg (by intro h; cases h)]
  simp only [h.rows, okR_pur h.ok, if_true]
theorem Own.frz (h : Own L k esz xs n cap) {fl : Nat} (hf : fl ≤ k) : Go.AI.frz L fl (.slc (.n k) 0 n cap true) = some (.lst xs) := by
  unfold Go.AI.frz
  rw [if_pos hf]
  simp only [h.rows, okR_pur h.ok, if_true]
theorem Own.of_get {M : DHeap} (h : Own L k esz xs n cap) (hg : hget M k = hget L k) : Own M k esz xs n cap := by
  obtain ⟨e, rs, h1, h2⟩ := h.get
  exact ⟨⟨e, rs, hg.trans h1, h2⟩, h.le, h.len⟩
theorem Own.kept {M : DHeap} (h : Own L k esz xs n cap) (hk : Kept L M) : Own M k esz xs n cap := by
  obtain ⟨e, rs, h1, _⟩ := h.get
  exact h.of_get ((hk.get h1).trans h1.symm)
/-- Nothing but one block is turned, and blocks may be there more. -/
structure Turn (k : Nat) (L M : DHeap) : Prop where
  len : L.length ≤ M.length
  oth : ∀ j, j < L.length → j ≠ k → M[j]? = L[j]?
theorem Turn.get {M : DHeap} (h : Turn k L M) {j : Nat} (hj : j < L.length) (hne : j ≠ k) : hget M j = hget L j := by
  unfold hget
  rw [h.oth j hj hne]
theorem Own.turn {M : DHeap} {q : Nat} (h : Own L k esz xs n cap) (ht : Turn q L M) (hne : k ≠ q) : Own M k esz xs n cap := h.of_get (ht.get h.lt hne)
theorem Turn.refl (k : Nat) (L : DHeap) : Turn k L L := ⟨Nat.le_refl _, fun _ _ _ => rfl⟩
theorem Turn.trans {M N : DHeap} (h : Turn k L M) (g : Turn k M N) : Turn k L N := ⟨Nat.le_trans h.len g.len, fun j hj hne => (g.oth j (Nat.lt_of_lt_of_le hj h.len) hne).trans (h.oth j hj hne)⟩
theorem Kept.turn {M : DHeap} (h : Kept L M) (k : Nat) : Turn k L M := ⟨h.1, fun j hj _ => h.2 j hj⟩
theorem Turn.set (L : DHeap) (k : Nat) (b : DBlk) : Turn k L (hset L k b) := ⟨by rw [length_hset]; exact Nat.le_refl _, fun j _ hne => by unfold hset; rw [List.getElem?_set_ne (fun e => hne e.symm)]⟩
theorem Turn.kept {M N : DHeap} (h : Kept L M) (g : Turn k M N) (hk : L.length ≤ k) : Kept L N := ⟨Nat.le_trans h.1 g.len, fun j hj => (g.oth j (Nat.lt_of_lt_of_le hj h.1) (by omega)).trans (h.2 j hj)⟩
/-- An element is appended to a list that fills its block. -/
theorem Own.push (h : Own L k esz xs n n) {fl bytes : Nat} {x : AV} {r : List AV} (hx : rowsV L x = some [r]) (hr : okRow esz r = true) (h1 : (n + 1) * bytes ≤ reachB) (h2 : n + 1 ≤ reachB) :
    appendD fl esz bytes L (.slc (.n k) 0 n n true) x = some (.slc (.n k) 0 (n + 1) (n + 1) true, hset L k (.rows esz (xs ++ [r]) true)) ∧ Own (hset L k (.rows esz (xs ++ [r]) true)) k esz (xs ++ [r]) (n + 1) (n + 1) := by
  obtain ⟨e, rs, g1, g2, g3, g4, g5⟩ := h.get
  have hrs : rs = xs := by rw [← g5, List.take_of_length_le (by omega)]
  subst hrs
  have hl : (rs ++ [r]).length = n + 1 := by rw [List.length_append, g2]; rfl
  exact ⟨appendD_own1 g1 hx g3 hr g2 h1 h2, ⟨esz, _, by rw [hget_hset _ _ _ h.lt, if_pos rfl], hl, .inr rfl, okR_append g4 (by rw [okR_cons, hr]; rfl), List.take_of_length_le (by omega)⟩, Nat.le_refl _, hl⟩
theorem Own.pushes (h : Own L k esz xs n n) {fl bytes : Nat} {x : AV} {ys : List (List AV)} (hx : rowsV L x = some ys) (hy : okR esz ys = true) (h1 : (n + ys.length) * bytes ≤ reachB) (h2 : n + ys.length ≤ reachB) :
    ∃ L', appendD fl esz bytes L (.slc (.n k) 0 n n true) x = some (.slc (.n k) 0 (n + ys.length) (n + ys.length) true, L') ∧ Own L' k esz (xs ++ ys) (n + ys.length) (n + ys.length) ∧ Turn k L L' ∧ L'.length = L.length := by
  obtain ⟨e, rs, g1, g2, g3, g4, g5⟩ := h.get
  have hrs : rs = xs := by rw [← g5, List.take_of_length_le (by omega)]
  subst hrs
  obtain ⟨L', e1, ⟨e', e2, e3⟩, e4, e5⟩ := appendD_own (fl := fl) g1 hx g3 hy g2 h1 h2
  have hl : (rs ++ ys).length = n + ys.length := by rw [List.length_append, g2]
  exact ⟨L', e1, ⟨⟨e', _, e3, hl, e2, okR_append g4 hy, List.take_of_length_le (by omega)⟩, Nat.le_refl _, hl⟩, ⟨by omega, fun j _ hne => e5 j hne⟩, e4⟩
/-- A part of an element is written. -/
theorem snaps_cons {L : DHeap} {v a : AV} {r l : List AV} {b c : Bool} (h1 : snap1 L v = some (a, b)) (h2 : snaps L r = some (l, c)) : snaps L (v :: r) = some (a :: l, b || c) := by
  simp only [snaps, h1, h2]
theorem snap_bsl {L : DHeap} {k off len cap : Nat} {t : Bool} {rs : List (List AV)} (h : rowsV L (.slc (.n k) off len cap t) = some rs) (hp : purR rs = true) : snap1 L (.slc (.n k) off len cap t) = some (.lst rs, true) := by
  unfold snap1
  rw [if_neg (by intro h; cases h)]
  simp only [h, hp, if_true]
theorem Own.put (h : Own L k esz xs n cap) {fl : Nat} {j : Nat} {x : List AV} (hx : xs[j]? = some x) {p m : Nat} {v : AV} (hv : v.ok = true) (hm : v.cells.length = m) (h1 : v.cells.all AV.one = true) (hp : purs v.cells = true) (hle : p + m ≤ esz) :
    ∃ L', storeD fl m (.eptr k cap j p) v L = some L' ∧ Own L' k esz (xs.set j (lay x p v.cells)) n cap ∧ Turn k L L' ∧ L'.length = L.length := by
  obtain ⟨e, rs, g1, g2, g3, g4, g5⟩ := h.get
  have hxr := h.inBlk g5 hx
  have hne : rs ≠ [] := by intro e0; rw [e0] at hxr; simp at hxr
  have he := g3.resolve_left hne
  subst he
  have hxl := h.rowLen hx
  have hll : (lay x p v.cells).length = e := by rw [length_lay _ _ _ (by omega)]; exact hxl
  refine ⟨hset L k (.rows e (rs.set j (lay x p v.cells)) true), ?_, ⟨⟨e, _, by rw [hget_hset _ _ _ h.lt, if_pos rfl], by rw [List.length_set]; exact g2, .inr rfl, ?_, ?_⟩, h.le, by rw [List.length_set]; exact h.len⟩, Turn.set _ _ _, length_hset _ _ _⟩
  · rw [storeD_eptr, if_pos ⟨hv, hm, h1⟩, g1]
    subst g2
    rw [stR_some hxr (by omega) (by rw [map_nrm hp]; exact .inl hp), map_nrm hp]
  · rw [okR_iff]
    have hok := okR_iff.1 g4
    intro r hr
    rcases List.mem_or_eq_of_mem_set hr with hr | rfl
    · exact hok r hr
    · have hxo := hok x (List.mem_of_getElem? hxr)
      unfold okRow at hxo ⊢
      rw [Bool.and_eq_true, Bool.and_eq_true] at hxo ⊢
      refine ⟨by rw [hll]; exact Nat.beq_refl _, ?_, ?_⟩
      · rw [List.all_eq_true]
        intro y hy
        rcases mem_lay hy with hy | hy
        · exact List.all_eq_true.1 hxo.2.1 y hy
        · exact List.all_eq_true.1 h1 y hy
      · rw [purs_iff]
        intro y hy
        rcases mem_lay hy with hy | hy
        · exact purs_iff.1 hxo.2.2 y hy
        · exact purs_iff.1 hp y hy
  · rw [List.take_set, g5]
/-- A list that is still empty. -/
theorem Own.fresh (L : DHeap) (esz : Nat) : Own (halloc L (.rows 0 [] true)) L.length esz [] 0 0 := ⟨⟨0, [], by rw [hget_halloc, if_pos rfl], rfl, .inl rfl, rfl, rfl⟩, Nat.le_refl _, rfl⟩
/-- A copy. -/
theorem Own.clone {esz bytes : Nat} {s : AV} {xs : List (List AV)} (hs : rowsV L s = some xs) (hx : okR esz xs = true) (hb : xs.length * bytes ≤ reachB) (hn : xs.length ≤ reachB) :
    primD (.clone esz bytes) [s] L = some (.slc (.n L.length) 0 xs.length xs.length true, halloc L (.rows esz xs true)) ∧ Own (halloc L (.rows esz xs true)) L.length esz xs xs.length xs.length := by
  refine ⟨?_, ⟨esz, xs, by rw [hget_halloc, if_pos rfl], rfl, .inr rfl, hx, List.take_of_length_le (Nat.le_refl _)⟩, Nat.le_refl _, rfl⟩
  unfold primD
  simp only [hs, mapR_nrm (okR_pur hx), okR_even hx, okR_one hx, roomB_iff.2 ⟨hb, hn⟩, Bool.and_self, if_true]
/-- A row of a literal. -/
theorem bsl1 (L : DHeap) (esz : Nat) (r : List AV) : rowsV (halloc L (.rows esz [r] false)) (.slc (.n L.length) 0 1 1 false) = some [r] := by
  rw [rowsV_slc, hget_halloc, if_pos rfl, rowsB_some, validB_f]
  rfl
/-- Cuts. -/
theorem Own.cut (h : Own L k esz xs n cap) {m : Nat} (hm : m ≤ cap) {kl kh : IntKind} {lo hi : Option Nat} (h1 : lo.getD 0 ≤ hi.getD m) (h2 : hi.getD m ≤ cap) :
    cutD esz L (.slc (.n k) 0 m cap true) (lo.map fun (i : Nat) => AV.int kl (i : Int)) (hi.map fun (i : Nat) => AV.int kh (i : Int)) none = some (.slc (.n k) (lo.getD 0) (hi.getD m - lo.getD 0) (cap - lo.getD 0) true) := by
  obtain ⟨e, rs, g1, g2, g3, g4, g5⟩ := h.get
  have hb : bndsV (lo.map fun (i : Nat) => AV.int kl (i : Int)) (hi.map fun (i : Nat) => AV.int kh (i : Int)) none m cap = some (lo.getD 0, hi.getD m, cap) := by
    unfold bndsV
    have e1 : bndV none cap cap = some cap := rfl
    have e2 : bndV (hi.map fun (i : Nat) => AV.int kh (i : Int)) cap m = some (hi.getD m) := by
      cases hi with
      | none => rfl
      | some i => simp only [Option.map_some, bndV, bound, Option.getD_some] at h2 ⊢; rw [if_pos (by omega)]; simp
    have e3 : bndV (lo.map fun (i : Nat) => AV.int kl (i : Int)) (hi.getD m) 0 = some (lo.getD 0) := by
      cases lo with
      | none => rfl
      | some i => simp only [Option.map_some, bndV, bound, Option.getD_some] at h1 ⊢; rw [if_pos (by omega)]; simp
    simp only [e1, e2, e3]
  unfold cutD
  simp only [g1, hb]
  rw [if_pos ⟨valid_own g2 hm, g3⟩]
  simp
/-- s[i:] -/
theorem Own.cutLo (h : Own L k esz xs n cap) {m i : Nat} (hm : m ≤ cap) {kl : IntKind} (hi : i ≤ m) : cutD esz L (.slc (.n k) 0 m cap true) (some (.int kl (i : Int))) none none = some (.slc (.n k) i (m - i) (cap - i) true) := by
  have := h.cut hm (kl := kl) (kh := kl) (lo := some i) (hi := none) (by simpa using hi) (by simpa using hm)
  simpa using this
/-- s[:i] -/
theorem Own.cutHi (h : Own L k esz xs n cap) {m i : Nat} (hm : m ≤ cap) {kh : IntKind} (hi : i ≤ cap) : cutD esz L (.slc (.n k) 0 m cap true) none (some (.int kh (i : Int))) none = some (.slc (.n k) 0 i cap true) := by
  have := h.cut hm (kl := kh) (kh := kh) (lo := none) (hi := some i) (by simp) (by simpa using hi)
  simpa using this
theorem Own.cut3 (h : Own L k esz xs n cap) {ki kj kn : IntKind} {i j m : Nat} (hij : i ≤ j) (hj : j ≤ m) (hm : m ≤ cap) : ∃ s0, cutD esz L (.slc (.n k) 0 n cap true) (some (.int ki (i : Int))) (some (.int kj (j : Int))) (some (.int kn (m : Int))) = some s0 := by
  obtain ⟨e, rs, g1, g2, g3, g4, g5⟩ := h.get
  have hb : bndsV (some (AV.int ki (i : Int))) (some (.int kj (j : Int))) (some (.int kn (m : Int))) n cap = some (i, j, m) := by
    unfold bndsV
    have e1 : bndV (some (.int kn (m : Int))) cap cap = some m := by simp only [bndV, bound]; rw [if_pos (by omega)]; simp
    have e2 : bndV (some (.int kj (j : Int))) m n = some j := by simp only [bndV, bound]; rw [if_pos (by omega)]; simp
    have e3 : bndV (some (.int ki (i : Int))) j 0 = some i := by simp only [bndV, bound]; rw [if_pos (by omega)]; simp
    simp only [e1, e2, e3]
  unfold cutD
  simp only [g1, hb]
  rw [if_pos ⟨valid_own g2 h.le, g3⟩]
  split <;> exact ⟨_, rfl⟩
/-- Rows are cleared. -/
theorem Own.clear (h : Own L k esz xs n cap) {fl a c m : Nat} {ys : List (List AV)} {z : List AV} (hac : a + c ≤ cap) (hz : okRow esz (z.map nrm) = true) (hm : m ≤ a) (hmn : m ≤ n) (hys : xs.take m = ys) :
    ∃ L', clearD fl z L (.slc (.n k) a c (cap - a) true) = some L' ∧ Own L' k esz ys m cap ∧ Turn k L L' ∧ L'.length = L.length := by
  obtain ⟨e, rs, g1, g2, g3, g4, g5⟩ := h.get
  have hv : validB rs true a c (cap - a) = true := by rw [validB_t]; simp; omega
  have hzl : z.length = esz := by have := okRow_len hz; rwa [List.length_map] at this
  have hzz : okRow esz (z.map nrm) = true := hz
  unfold okRow at hzz
  rw [Bool.and_eq_true, Bool.and_eq_true] at hzz
  have hm' : rs.take m = ys := by rw [← hys, ← g5, List.take_take, Nat.min_eq_left hmn]
  unfold clearD
  simp only [g1]
  by_cases hc : c = 0
  · rw [if_pos ⟨hv, .inl hc, hzz.2.1, .inl hzz.2.2⟩]
    simp only [hc, if_true]
    refine ⟨L, rfl, ⟨⟨e, rs, g1, g2, g3, g4, hm'⟩, by have := h.le; omega, ?_⟩, Turn.refl _ _, rfl⟩
    rw [← hys, List.length_take, h.len]; omega
  · have hne : rs ≠ [] := by intro e0; rw [e0] at g2; simp at g2; omega
    have he := g3.resolve_left hne
    subst he
    rw [if_pos ⟨hv, .inr hzl.symm, hzz.2.1, .inl hzz.2.2⟩, if_neg hc]
    refine ⟨_, rfl, ⟨⟨e, _, by rw [hget_hset _ _ _ h.lt, if_pos rfl], ?_, .inr rfl, ?_, ?_⟩, by have := h.le; omega, ?_⟩, Turn.set _ _ _, length_hset _ _ _⟩
    · rw [length_lay _ _ _ (by rw [List.length_replicate]; omega)]; exact g2
    · rw [okR_iff] at g4 ⊢
      intro r hr
      rcases mem_lay hr with hr | hr
      · exact g4 r hr
      · rw [(List.mem_replicate.1 hr).2]; exact hz
    · rw [← hm']
      unfold lay
      rw [List.append_assoc, List.take_append_of_le_length (by rw [List.length_take]; omega), List.take_take, Nat.min_eq_left hm]
    · rw [← hys, List.length_take, h.len]; omega
/-- Some elements are taken out of the midst. -/
theorem Own.deleteAt (h : Own L k esz xs n cap) {fl bytes i j : Nat} {z : List AV} (hij : i < j) (hj : j ≤ n) (hz : okRow esz (z.map nrm) = true) :
    ∃ L1 L2, appendD fl esz bytes L (.slc (.n k) 0 i cap true) (.slc (.n k) j (n - j) (cap - j) true) = some (.slc (.n k) 0 (n - (j - i)) cap true, L1) ∧ Go.AI.lenV L1 (.slc (.n k) 0 (n - (j - i)) cap true) = some (n - (j - i)) ∧
      cutD esz L1 (.slc (.n k) 0 (n - (j - i)) cap true) (some (.int .i64 ((n - (j - i) : Nat) : Int))) (some (.int .i64 (n : Int))) none = some (.slc (.n k) (n - (j - i)) (j - i) (cap - (n - (j - i))) true) ∧
      clearD fl z L1 (.slc (.n k) (n - (j - i)) (j - i) (cap - (n - (j - i))) true) = some L2 ∧ Own L2 k esz (xs.take i ++ xs.drop j) (n - (j - i)) cap ∧ Turn k L L2 ∧ L2.length = L.length := by
  obtain ⟨e, rs, g1, g2, g3, g4, g5⟩ := h.get
  have hle := h.le
  have hne : rs ≠ [] := by intro e0; rw [e0] at g2; simp at g2; omega
  have he := g3.resolve_left hne
  subst he
  have hx2 : (rs.drop j).take (n - j) = xs.drop j := by rw [← g5, List.drop_take]
  have hrow : rowsV L (.slc (.n k) j (n - j) (cap - j) true) = some (xs.drop j) := by
    rw [rowsV_slc, g1, rowsB_some, if_pos (by rw [validB_t]; simp; omega), hx2]
  have hdo : okR e (xs.drop j) = true := okR_sub h.ok fun r hr => List.mem_of_mem_drop hr
  have hdl : (xs.drop j).length = n - j := by rw [List.length_drop, h.len]
  have hl1 : (lay rs i (xs.drop j)).length = rs.length := length_lay _ _ _ (by omega)
  have ho1 : Own (hset L k (.rows e (lay rs i (xs.drop j)) true)) k e (xs.take i ++ xs.drop j) (n - (j - i)) cap := by
    refine ⟨⟨e, _, by rw [hget_hset _ _ _ h.lt, if_pos rfl], by rw [hl1]; exact g2, .inr rfl, ?_, ?_⟩, by omega, ?_⟩
    · rw [okR_iff] at g4 hdo ⊢
      intro r hr
      rcases mem_lay hr with hr | hr
      · exact g4 r hr
      · exact hdo r hr
    · unfold lay
      have e1 : rs.take i = xs.take i := by rw [← g5, List.take_take, Nat.min_eq_left (by omega)]
      rw [e1, List.take_append_of_le_length (by rw [List.length_append, List.length_take, hdl, h.len]; omega), List.take_of_length_le (by rw [List.length_append, List.length_take, hdl, h.len]; omega)]
    · rw [List.length_append, List.length_take, hdl, h.len]; omega
  have hl2 : (xs.take i ++ xs.drop j).length = n - (j - i) := ho1.len
  obtain ⟨L2, c1, c2, c3, c4⟩ := ho1.clear (fl := fl) (a := n - (j - i)) (c := j - i) (m := n - (j - i)) (ys := xs.take i ++ xs.drop j) (z := z) (by omega) hz (Nat.le_refl _) (Nat.le_refl _) (List.take_of_length_le (by omega))
  refine ⟨_, L2, ?_, ho1.lenV, ?_, c1, c2, (Turn.set _ _ _).trans c3, by rw [c4, length_hset]⟩
  · unfold appendD
    simp only [hrow, mapR_nrm (okR_pur hdo), okR_even hdo, okR_one hdo, Bool.and_self, if_true, g1, hdl]
    rw [if_pos (valid_own g2 (by omega)), if_pos (by omega), if_pos ⟨.inl trivial, .inl (okR_pur hdo)⟩, Nat.zero_add]
    by_cases h0 : n - j = 0
    · rw [if_pos h0]
      have hd0 : xs.drop j = [] := List.eq_nil_of_length_eq_zero (by omega)
      have : hset L k (.rows e (lay rs i (xs.drop j)) true) = L := by
        rw [hd0, lay_nil]
        exact hset_same g1
      rw [this]
      congr 3
      omega
    · rw [if_neg h0]
      congr 3
      omega
  · have := ho1.cut (m := n - (j - i)) (by omega) (kl := .i64) (kh := .i64) (lo := some (n - (j - i))) (hi := some n) (by simp) (by simpa using hle)
    simp only [Option.map_some, Option.getD_some] at this
    rw [this]
    congr 2
    omega
end
end Go.AI
