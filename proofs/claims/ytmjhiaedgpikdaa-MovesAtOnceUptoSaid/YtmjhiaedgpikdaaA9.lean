/- THE SECOND MACHINE, 9: the operations one by one, but for append, copy, clear and maps. Own work. -/
import Derived.Test.YtmjhiaedgpikdaaA8
set_option linter.unusedSimpArgs false
set_option linter.unusedVariables false
namespace Go.AI
section
variable {P : Program} {o : Oper} {ao : AOp}

theorem VRs.of_array {φ : Emb} {as : List AV} {vs : Array Value} (h : VRs φ as vs.toList) : as.length = vs.size := by
  have := h.length
  simpa using this

theorem ok_move {x : Operand} (hop : o.op = .move x ∨ o.op = .assign x) (h : trOp P o.op = some ao) : OpOk P o ao := by
  intro φ w0 T H a w v H' hT hR he
  have hx : ∃ x', trX x = some x' ∧ ao = .mv x' := by
    rcases hop with e | e <;> rw [e] at h <;> simp only [trOp, Option.map_eq_some_iff] at h <;> (obtain ⟨x', h1, rfl⟩ := h; exact ⟨x', h1, rfl⟩)
  obtain ⟨x', h1, rfl⟩ := hx
  simp only [opF] at he
  cases he
  refine OpOk.same rfl hR (v' := a.eval x) ?_ (ev_VR hT hR h1)
  rcases hop with e | e <;> simp only [execOp, e] <;> rfl

theorem ok_pick {c x y : Operand} (hop : o.op = .pick c x y) (h : trOp P o.op = some ao) : OpOk P o ao := by
  intro φ w0 T H a w v H' hT hR he
  rw [hop] at h
  simp only [trOp] at h
  split at h
  · rename_i c' x' y' hc hx hy
    cases h
    simp only [opF] at he
    split at he
    · rename_i t ht
      cases he
      have hc' := ev_VR hT hR hc
      rw [ht] at hc'
      have hc' : a.eval c = .bool t := hc'
      cases t
      · exact OpOk.same rfl hR (v' := a.eval y) (by simp [execOp, hop, hc', asBool]) (ev_VR hT hR hy)
      · exact OpOk.same rfl hR (v' := a.eval x) (by simp [execOp, hop, hc', asBool]) (ev_VR hT hR hx)
    · cases he
  · cases h

theorem zeroCellsT_run {t : TypeId} {cs : List AV} (h : zeroCellsT P t = some cs) : ∃ z : Value, ∃ i, P.info? t = some i ∧ i.zero = some z ∧ i.size = cs.length ∧ ∀ φ, VRs φ cs z.cells.toList := by
  unfold zeroCellsT at h
  split at h
  · rename_i z n hz hn
    split at h
    · rename_i hk
      cases h
      simp only [zeroT, Option.bind_eq_some_iff] at hz
      obtain ⟨v, ⟨i, hi, hiz⟩, hv⟩ := hz
      simp only [sizeT, hi, Option.map_some, Option.some.injEq] at hn
      exact ⟨v, i, hi, hiz, by rw [hn]; exact hk.2.symm, fun φ => (absC_VR hv).cells hk.1⟩
    · cases h
  · cases h

/-- A new block's content: of the makers that call nobody. -/
inductive AlV where
  | ptr
  | slc (l c : Nat)
  | map
def AlV.at : AlV → Id → AV
  | .ptr, i => .ptr i 0
  | .slc l c, i => .slc i 0 l c false
  | .map, i => .map i
def isAl : AOp → Bool
  | .alloc _ | .box _ | .bslice .. | .mkMap | .mkSlice .. => true
  | _ => false
def alF (o : AOp) (T : Trie AV) : Option (AlV × ABlk) :=
  match o with
  | .alloc cs => some (.ptr, .cells cs 0)
  | .box x => if (ev T x).ok then some (.ptr, .cells (ev T x).cells 0) else none
  | .bslice _ len z parts => (fill T z parts).map fun cs => (.slc len len, .cells cs 0)
  | .mkMap => some (.map, .map [] 0)
  | .mkSlice _ bytes z l c => match ev T l, ev T c with
    | .int _ l, .int _ c => if 0 ≤ l ∧ l ≤ c ∧ c * bytes ≤ reachB ∧ c ≤ reachB then some (.slc l.toNat c.toNat, .cells (zeros z c.toNat) 0) else none
    | _, _ => none
  | _ => none
theorem opF_al {x : AOp} (h : isAl x = true) (T : Trie AV) (H : AHeap) : opF x T H = (alF x T).map fun r => (r.1.at (.n H.next), H.alloc r.2) := by
  cases x <;> simp only [isAl, Bool.false_eq_true] at h <;> simp only [opF, alF]
  case alloc => rfl
  case box => split <;> rfl
  case bslice => simp only [Option.map_map]; rfl
  case mkMap => rfl
  case mkSlice e b z l c =>
    generalize ev T l = x
    generalize ev T c = y
    cases x <;> try rfl
    cases y <;> try rfl
    simp only
    split <;> rfl
def AlOk (P : Program) (o : Oper) (ao : AOp) : Prop :=
  ∀ (φ : Emb) (w0 : World) (T : Trie AV) (H : AHeap) (a : Act) (w : World) (r : AlV × ABlk), TR φ T a.tmps → Rel φ w0 H w → alF ao T = some r →
    ∃ v' obj, (execOp a.eval o).run P w = .ok (.value v') (w.alloc obj) ∧ BR φ ⟨w.heap.size, 0, 0, false⟩ (w.alloc obj) true r.2 ∧
      ∀ (ψ : Emb) (i : Id), ψ i = some ⟨w.heap.size, 0, 0, false⟩ → VR ψ (r.1.at i) v'
theorem AlOk.op (h : AlOk P o ao) (hal : isAl ao = true) : OpOk P o ao := by
  intro φ w0 T H a w v H' hT hR he
  rw [opF_al hal, Option.map_eq_some_iff] at he
  obtain ⟨r, hr, he⟩ := he
  cases he
  obtain ⟨v', obj, h1, h2, h3⟩ := h φ w0 T H a w r hT hR hr
  have hh := hR.alloc r.2 obj 0 h2
  exact ⟨_, v', _, .inl h1, hh.2, h3 _ _ (Emb.upd_same _ _ _), hh.1⟩

/-- A block of cells that is made. -/
theorem BR_cells {φ : Emb} {w : World} {cs : List AV} {vs : Array Value} (hv : VRs φ cs vs.toList) (t : TypeId) : BR φ ⟨w.heap.size, 0, 0, false⟩ (w.alloc (.cells vs t)) true (.cells cs 0) := by
  refine ⟨vs, t, (0, 0), heap_alloc_new w _, fun _ => rfl, ?_, ?_⟩
  · rw [List.drop_zero, hv.length, List.take_length]
    exact hv
  · have := hv.of_array
    simp only
    omega

theorem al_alloc {e : TypeId} (hop : o.op = .alloc e) (h : trOp P o.op = some ao) : isAl ao = true ∧ AlOk P o ao := by
  rw [hop] at h
  simp only [trOp, Option.map_eq_some_iff] at h
  obtain ⟨cs, hcs, rfl⟩ := h
  refine ⟨rfl, ?_⟩
  intro φ w0 T H a w r hT hR he
  simp only [alF] at he
  cases he
  obtain ⟨z, i, hi, hz, hsz, hv⟩ := zeroCellsT_run hcs
  exact ⟨.pointer (some ⟨w.heap.size, 0, none⟩), .cells z.cells e, by simp [execOp, hop, Instr.alloc, zeroValue, run_typeInfo' hi, hz, newVar, newRow], BR_cells (hv φ) e, fun ψ i h => ⟨_, h, by simp⟩⟩
theorem ok_alloc {e : TypeId} (hop : o.op = .alloc e) (h : trOp P o.op = some ao) : OpOk P o ao := (al_alloc hop h).2.op (al_alloc hop h).1

theorem al_box {e : TypeId} {x : Operand} (hop : o.op = .box e x) (h : trOp P o.op = some ao) : isAl ao = true ∧ AlOk P o ao := by
  rw [hop] at h
  simp only [trOp, Option.map_eq_some_iff] at h
  obtain ⟨x', hx, rfl⟩ := h
  refine ⟨rfl, ?_⟩
  intro φ w0 T H a w r hT hR he
  simp only [alF] at he
  split at he
  · rename_i hok
    cases he
    have hv := (ev_VR hT hR hx).cells hok
    exact ⟨.pointer (some ⟨w.heap.size, 0, none⟩), .cells (a.eval x).cells e, by simp [execOp, hop, Instr.box, newVar, newRow], BR_cells hv e, fun ψ i h => ⟨_, h, by simp⟩⟩
  · cases he
theorem ok_box {e : TypeId} {x : Operand} (hop : o.op = .box e x) (h : trOp P o.op = some ao) : OpOk P o ao := (al_box hop h).2.op (al_box hop h).1

theorem ok_nilCheck {x : Operand} (hop : o.op = .nilCheck x) (h : trOp P o.op = some ao) : OpOk P o ao := by
  intro φ w0 T H a w v H' hT hR he
  rw [hop] at h
  simp only [trOp, Option.map_eq_some_iff] at h
  obtain ⟨x', hx, rfl⟩ := h
  simp only [opF] at he
  have hv := ev_VR hT hR hx
  split at he
  · rename_i i p hp
    rw [hp] at hv
    cases he
    have hv' := hv
    obtain ⟨l, hl, hb⟩ := hv
    exact OpOk.same rfl hR (v' := a.eval x) (by rw [hb]; simp [execOp, hop, hb]) hv'
  · rename_i f p q hp
    rw [hp] at hv
    cases he
    have hv' := hv
    obtain ⟨b, c, hb, _⟩ := hv
    exact OpOk.same rfl hR (v' := a.eval x) (by rw [hb]; simp [execOp, hop, hb]) hv'
  · cases he

theorem ok_binOp {op : BinOp} {t u : TypeId} {x y : Operand} (hop : o.op = .binOp op t x y u) (h : trOp P o.op = some ao) : OpOk P o ao := by
  intro φ w0 T H a w v H' hT hR he
  rw [hop] at h
  simp only [trOp, trBin] at h
  have hex : execOp a.eval o = (do pure (.value (← (do eqGuard op t x y (a.eval x) (a.eval y); binOp op t (a.eval x) (a.eval y) : Sem Value))) : Sem Next) := by
    simp only [execOp, hop]
  split at h
  · rename_i x' y' hx hy
    have hvx := ev_VR hT hR hx
    have hvy := ev_VR hT hR hy
    have cmp : ∀ (neg : Bool) (ct : CmpT) (d : TypeDesc), op = neqOp neg → P.underlying t = some d → cmpFits P t ct d →
        (ct = .iface → isConstX x = true ∨ isConstX y = true) → ao = .cmp neg ct x' y' →
        ∃ φ' v' w', Res ((execOp a.eval o).run P w) v' w' ∧ Step φ H φ' H' ∧ VR φ' v v' ∧ Rel φ' w0 H' w' := by
      intro neg ct d hn hu hm hc hao
      subst hao
      simp only [opF, Option.map_eq_some_iff] at he
      obtain ⟨r, hr, he⟩ := he
      cases he
      have := run_cmpA hr (w := w) hu hm hvx hvy neg x y hc
      exact OpOk.same rfl hR (v' := .bool (if neg then !r else r)) (by rw [hex, hn, Sem.run_bind, this]; rfl) rfl
    split at h
    · rename_i k hu
      cases h
      simp only [opF, Option.map_eq_some_iff] at he
      obtain ⟨r, hr, he⟩ := he
      cases he
      have hk : ∃ k n j m, a.eval x = .int k n ∧ a.eval y = .int j m := by
        unfold binA at hr
        split at hr
        · rename_i k n j m hxx hyy
          rw [hxx] at hvx
          rw [hyy] at hvy
          exact ⟨k, n, j, m, hvx, hvy⟩
        · cases hr
      obtain ⟨v', h1, h2, _⟩ := run_binA (P := P) (w := w) (φ := φ) hr t hvx hvy
      obtain ⟨k, n, j, m, e1, e2⟩ := hk
      refine OpOk.same rfl hR (v' := v') ?_ h2
      rw [hex]
      rw [e1, e2] at h1 ⊢
      simp only [Sem.run_bind, run_eqGuard_int, Result.andThen_ok, h1]
      rfl
    · rename_i d hni hu
      split at h
      · simp only at h
        split at h
        · cases h; exact cmp false .bool _ rfl hu trivial (by intro e; cases e) rfl
        · cases h; exact cmp false .str _ rfl hu trivial (by intro e; cases e) rfl
        · cases h; exact cmp false .ptr _ rfl hu trivial (by intro e; cases e) rfl
        · cases h; exact cmp false .slc _ rfl hu trivial (by intro e; cases e) rfl
        · cases h; exact cmp false .map _ rfl hu trivial (by intro e; cases e) rfl
        · cases h; exact cmp false .func _ rfl hu trivial (by intro e; cases e) rfl
        · split at h
          · rename_i hc; cases h; exact cmp false .iface _ rfl hu trivial (fun _ => by simpa using hc) rfl
          · cases h
        · split at h
          · cases h
          · rename_i hg
            simp only [Option.map_eq_some_iff] at h
            obtain ⟨ks, hks, rfl⟩ := h
            exact cmp false (.flat ks) _ rfl hu ⟨by simpa using hg, hks⟩ (by intro e; cases e) rfl
        · cases h
      · simp only at h
        split at h
        · cases h; exact cmp true .bool _ rfl hu trivial (by intro e; cases e) rfl
        · cases h; exact cmp true .str _ rfl hu trivial (by intro e; cases e) rfl
        · cases h; exact cmp true .ptr _ rfl hu trivial (by intro e; cases e) rfl
        · cases h; exact cmp true .slc _ rfl hu trivial (by intro e; cases e) rfl
        · cases h; exact cmp true .map _ rfl hu trivial (by intro e; cases e) rfl
        · cases h; exact cmp true .func _ rfl hu trivial (by intro e; cases e) rfl
        · split at h
          · rename_i hc; cases h; exact cmp true .iface _ rfl hu trivial (fun _ => by simpa using hc) rfl
          · cases h
        · split at h
          · cases h
          · rename_i hg
            simp only [Option.map_eq_some_iff] at h
            obtain ⟨ks, hks, rfl⟩ := h
            exact cmp true (.flat ks) _ rfl hu ⟨by simpa using hg, hks⟩ (by intro e; cases e) rfl
        · cases h
      · cases h
    · cases h
  · cases h

theorem ok_unOp {op : UnOp} {t : TypeId} {x : Operand} (hop : o.op = .unOp op t x) (h : trOp P o.op = some ao) : OpOk P o ao := by
  intro φ w0 T H a w v H' hT hR he
  rw [hop] at h
  simp only [trOp, Option.map_eq_some_iff] at h
  obtain ⟨x', hx, rfl⟩ := h
  simp only [opF, Option.map_eq_some_iff] at he
  obtain ⟨r, hr, he⟩ := he
  cases he
  obtain ⟨v', h1, h2⟩ := run_unA (P := P) (w := w) hr (ev_VR hT hR hx)
  exact OpOk.same rfl hR (v' := v') (by simp [execOp, hop, h1]) h2

theorem ok_convert {s d : TypeId} {x : Operand} (hop : o.op = .convert s d x) (h : trOp P o.op = some ao) : OpOk P o ao := by
  intro φ w0 T H a w v H' hT hR he
  rw [hop] at h
  simp only [trOp] at h
  split at h
  · rename_i ds k x' hs hd hx
    cases h
    simp only [opF] at he
    split at he
    · rename_i j n hn
      cases he
      have hv := ev_VR hT hR hx
      rw [hn] at hv
      have hv : a.eval x = .int j n := hv
      exact OpOk.same rfl hR (v' := .int k (k.wrap n)) (by simp [execOp, hop, hv, convert, run_underlying hs, run_underlying hd, Conv.intToInt]) rfl
    · cases he
  · cases h

theorem ok_makeInterface {t : TypeId} {x : Operand} (hop : o.op = .makeInterface t x) (h : trOp P o.op = some ao) : OpOk P o ao := by
  intro φ w0 T H a w v H' hT hR he
  rw [hop] at h
  simp only [trOp] at h
  split at h
  · cases h
  · rename_i d x' hni hu hx
    cases h
    simp only [opF] at he
    cases he
    have hv := ev_VR hT hR hx
    refine OpOk.same rfl hR (v' := .iface t (a.eval x)) ?_ ⟨_, rfl, hv⟩
    cases d <;> first | (exact absurd rfl (hni _)) | simp [execOp, hop, Instr.makeInterface, run_underlying hu]
  · cases h

theorem ok_makeFunc {fn : Fn} {x y : Array Operand} (hop : o.op = .makeFunc fn x y) (h : trOp P o.op = some ao) : OpOk P o ao := by
  intro φ w0 T H a w v H' hT hR he
  rw [hop] at h
  cases fn <;> simp only [trOp, reduceCtorEq] at h
  rename_i f
  split at h
  · rename_i x' y' hx hy
    cases h
    simp only [opF] at he
    cases he
    have h1 := evs_VR hT hR hx
    have h2 := evs_VR hT hR hy
    refine OpOk.same rfl hR (v' := .func (.func f) (x.map a.eval) (y.map a.eval)) ?_ ⟨_, _, rfl, by simpa using h1, by simpa using h2⟩
    simp [execOp, hop, Instr.makeFunc]
  · cases h

theorem al_makeMap {t : TypeId} {r : Option Operand} (hop : o.op = .makeMap t r) (h : trOp P o.op = some ao) : isAl ao = true ∧ AlOk P o ao := by
  rw [hop] at h
  cases r <;> simp only [trOp, reduceCtorEq] at h
  cases h
  refine ⟨rfl, ?_⟩
  intro φ w0 T H a w r hT hR he
  simp only [alF] at he
  cases he
  exact ⟨.map (some w.heap.size), .map #[] 0, by simp [execOp, hop, Instr.makeMap], ⟨#[], heap_alloc_new w _, rfl, VRs.nil, VRs.nil⟩, fun ψ i h => ⟨_, h, rfl⟩⟩
theorem ok_makeMap {t : TypeId} {r : Option Operand} (hop : o.op = .makeMap t r) (h : trOp P o.op = some ao) : OpOk P o ao := (al_makeMap hop h).2.op (al_makeMap hop h).1

theorem ok_extract {x : Operand} {i : Nat} (hop : o.op = .extract x i) (h : trOp P o.op = some ao) : OpOk P o ao := by
  intro φ w0 T H a w v H' hT hR he
  rw [hop] at h
  simp only [trOp, Option.map_eq_some_iff] at h
  obtain ⟨x', hx, rfl⟩ := h
  simp only [opF] at he
  split at he
  · rename_i vs hvs
    simp only [Option.map_eq_some_iff] at he
    obtain ⟨u, hu, he⟩ := he
    cases he
    have hv := ev_VR hT hR hx
    rw [hvs] at hv
    obtain ⟨cs, hcs, hrel⟩ := hv
    obtain ⟨v', h1, h2⟩ := hrel.get hu
    refine OpOk.same rfl hR (v' := v') ?_ h2
    simp only [Array.getElem?_toList] at h1
    simp [execOp, hop, Instr.extract, hcs, h1]
  · cases he

theorem ok_fieldAddr {t : TypeId} {x : Operand} {f : Nat} (hop : o.op = .fieldAddr t x f) (h : trOp P o.op = some ao) : OpOk P o ao := by
  intro φ w0 T H a w v H' hT hR he
  rw [hop] at h
  simp only [trOp] at h
  split at h
  · rename_i fs x' hu hx
    split at h
    · rename_i off n hp
      split at h
      · cases h
      · rename_i hn
        cases h
        simp only [structPlace] at hp
        split at hp
        · rename_i fd hf
          simp only [Option.map_eq_some_iff, Prod.mk.injEq] at hp
          obtain ⟨m, hm, h1, h2⟩ := hp
          subst h1; subst h2
          simp only [opF] at he
          split at he
          · rename_i i q hq
            cases he
            have hv := ev_VR hT hR hx
            rw [hq] at hv
            obtain ⟨l, hl, hb⟩ := hv
            refine OpOk.same rfl hR (v' := .pointer (some ⟨l.blk, l.off + q + fd.offset, none⟩)) ?_ ⟨l, hl, by rw [Nat.add_assoc]⟩
            simp [execOp, hop, Instr.fieldAt, run_underlying hu, hf, hb, Instr.sureAddr, fieldPlace, run_sizeT hm, hn, addr_add]
          · cases he
        · cases hp
    · cases h
  · cases h

theorem selT_run {t : TypeId} {s : Option Nat} (h : selT P t = some s) : ∀ w, (Go.isAgg t).run P w = .ok s.isSome w ∧ ∀ n, s = some n → (sizeOf t).run P w = .ok n w := by
  intro w
  unfold selT at h
  split at h
  · rename_i fs hu
    simp only [Option.map_eq_some_iff] at h
    obtain ⟨i, hi, rfl⟩ := h
    exact ⟨by simp [Go.isAgg, run_underlying hu], fun n hn => by cases hn; simp [sizeOf, run_typeInfo' hi]⟩
  · rename_i fs hu
    simp only [Option.map_eq_some_iff] at h
    obtain ⟨i, hi, rfl⟩ := h
    exact ⟨by simp [Go.isAgg, run_underlying hu], fun n hn => by cases hn; simp [sizeOf, run_typeInfo' hi]⟩
  · rename_i d hs ha hu
    cases h
    refine ⟨?_, fun n hn => by cases hn⟩
    cases d <;> first | (exact absurd rfl (hs _)) | (exact absurd rfl (ha _ _)) | simp [Go.isAgg, run_underlying hu]
  · cases h

theorem run_partA {t : TypeId} {s : Option Nat} (hs : selT P t = some s) {cs : List AV} {off : Nat} {v : AV} (hv : partA cs off s = some v) {φ : Emb} {vs : Array Value} (h : VRs φ cs vs.toList) (w : World) :
    ∃ v', (part t vs off).run P w = .ok v' w ∧ VR φ v v' := by
  obtain ⟨h1, h2⟩ := selT_run hs w
  cases s with
  | none =>
    simp only [partA] at hv
    obtain ⟨v', h3, h4⟩ := h.get hv
    simp only [Array.getElem?_toList] at h3
    exact ⟨v', by simp [part, h1, h3], h4⟩
  | some n =>
    simp only [partA, seg, Option.map_eq_some_iff] at hv
    obtain ⟨l, hl, rfl⟩ := hv
    split at hl
    · cases hl
      refine ⟨.agg (vs.extract off (off + n)), by simp [part, h1, h2 n rfl], _, rfl, ?_⟩
      rw [Array.toList_extract]
      simp only [List.extract, Nat.add_sub_cancel_left]
      exact (h.drop off).take n
    · cases hl

theorem ok_field {t : TypeId} {x : Operand} {f : Nat} (hop : o.op = .field t x f) (h : trOp P o.op = some ao) : OpOk P o ao := by
  intro φ w0 T H a w v H' hT hR he
  rw [hop] at h
  simp only [trOp] at h
  split at h
  · rename_i fs x' hu hx
    split at h
    · rename_i fd hf
      simp only [Option.map_eq_some_iff] at h
      obtain ⟨s, hs, rfl⟩ := h
      simp only [opF] at he
      split at he
      · rename_i cs hcs
        simp only [Option.map_eq_some_iff] at he
        obtain ⟨u, hu', he⟩ := he
        cases he
        have hv := ev_VR hT hR hx
        rw [hcs] at hv
        obtain ⟨cs', hcs', hrel⟩ := hv
        obtain ⟨v', h1, h2⟩ := run_partA hs hu' hrel w
        exact OpOk.same rfl hR (v' := v') (by simp [execOp, hop, Instr.field, run_underlying hu, hf, hcs', asAgg, h1]) h2
      · cases he
    · cases h
  · cases h

theorem ok_indexAddr {t : TypeId} {x i : Operand} (hop : o.op = .indexAddr t x i) (h : trOp P o.op = some ao) : OpOk P o ao := by
  intro φ w0 T H a w v H' hT hR he
  rw [hop] at h
  simp only [trOp] at h
  split at h
  · rename_i x' i' hx hi
    have hvx := ev_VR hT hR hx
    have hvi := ev_VR hT hR hi
    split at h
    · rename_i e hu
      simp only [Option.map_eq_some_iff] at h
      obtain ⟨n, hn, rfl⟩ := h
      simp only [opF] at he
      split at he
      · rename_i j off len cap tail k m hj hk
        split at he
        · rename_i hb
          cases he
          rw [hj] at hvx
          rw [hk] at hvi
          obtain ⟨hle, l, hl, b, c, hbc, hc, ha⟩ := hvx
          have hvi : a.eval i = .int k m := hvi
          have hlt := hb.2
          have ha := ha (by omega)
          refine OpOk.same rfl hR (v' := .pointer (some (b.add (m.toNat * n)))) ?_ ⟨l, hl, by rw [ha, addr_add, Nat.add_assoc]⟩
          simp [execOp, hop, Instr.indexAt, hvi, hbc, asIntOf, run_underlying hu, run_sizeT hn, hb.1, hb.2]
        · cases he
      · cases he
    · rename_i len e hu
      simp only [Option.map_eq_some_iff] at h
      obtain ⟨n, hn, rfl⟩ := h
      simp only [opF] at he
      split at he
      · rename_i j off k m hj hk
        split at he
        · rename_i hb
          cases he
          rw [hj] at hvx
          rw [hk] at hvi
          obtain ⟨l, hl, hbc⟩ := hvx
          have hvi : a.eval i = .int k m := hvi
          refine OpOk.same rfl hR (v' := .pointer (some ⟨l.blk, l.off + off + m.toNat * n, none⟩)) ?_ ⟨l, hl, by rw [Nat.add_assoc]⟩
          simp [execOp, hop, Instr.indexAt, hvi, hbc, asIntOf, run_underlying hu, run_sizeT hn, Instr.sureAddr, hb.1, hb.2, addr_add]
        · cases he
      · cases he
    · cases h
  · cases h

theorem ok_index {t : TypeId} {x i : Operand} (hop : o.op = .index t x i) (h : trOp P o.op = some ao) : OpOk P o ao := by
  intro φ w0 T H a w v H' hT hR he
  rw [hop] at h
  simp only [trOp] at h
  split at h
  · rename_i x' i' hx hi
    have hvx := ev_VR hT hR hx
    have hvi := ev_VR hT hR hi
    split at h
    · rename_i len e hu
      split at h
      · rename_i n s hn hs
        cases h
        simp only [opF] at he
        split at he
        · rename_i cs k m hj hk
          split at he
          · rename_i hb
            simp only [Option.map_eq_some_iff] at he
            obtain ⟨u, hu', he⟩ := he
            cases he
            rw [hj] at hvx
            rw [hk] at hvi
            obtain ⟨cs', hcs', hrel⟩ := hvx
            have hvi : a.eval i = .int k m := hvi
            obtain ⟨v', h1, h2⟩ := run_partA hs hu' hrel w
            exact OpOk.same rfl hR (v' := v') (by simp [execOp, hop, Instr.index, hvi, hcs', asIntOf, run_underlying hu, run_sizeT hn, hb.1, hb.2, h1]) h2
          · cases he
        · cases he
      · cases h
    · cases h
  · cases h

theorem ok_typeAssert {x : Operand} {xt t : TypeId} {ok : Bool} (hop : o.op = .typeAssert x xt t ok) (h : trOp P o.op = some ao) : OpOk P o ao := by
  intro φ w0 T H a w v H' hT hR he
  rw [hop] at h
  simp only [trOp] at h
  split at h
  · cases h
  · rename_i d z x' hni hu hz hx
    cases h
    have hvx := ev_VR hT hR hx
    simp only [zeroT, Option.bind_eq_some_iff] at hz
    obtain ⟨zv, ⟨inf, hinf, hiz⟩, hzv⟩ := hz
    have hzr : (zeroValue t).run P w = .ok zv w := by simp [zeroValue, run_typeInfo' hinf, hiz]
    have hzV : VR φ z zv := absC_VR hzv
    have hd : ∀ ms, d ≠ .interface ms := fun ms e => hni ms e
    simp only [opF] at he
    split at he
    · rename_i hn
      rw [hn] at hvx
      have hvx : a.eval x = .nilIface := hvx
      split at he
      · rename_i hok
        cases he
        refine OpOk.same rfl hR (v' := .tuple #[zv, .bool false]) ?_ ⟨_, rfl, VRs.cons hzV (VRs.cons rfl VRs.nil)⟩
        cases d <;> first | (exact absurd rfl (hd _)) | simp [execOp, hop, Instr.typeAssert, run_underlying hu, hvx, hok, hzr]
      · cases he
    · rename_i u y hn
      rw [hn] at hvx
      obtain ⟨y', hy, hyv⟩ := hvx
      split at he
      · rename_i hut
        subst hut
        cases he
        cases ok
        · refine OpOk.same rfl hR (v' := y') ?_ hyv
          cases d <;> first | (exact absurd rfl (hd _)) | simp [execOp, hop, Instr.typeAssert, run_underlying hu, hy]
        · refine OpOk.same rfl hR (v' := .tuple #[y', .bool true]) ?_ ⟨_, rfl, VRs.cons hyv (VRs.cons rfl VRs.nil)⟩
          cases d <;> first | (exact absurd rfl (hd _)) | simp [execOp, hop, Instr.typeAssert, run_underlying hu, hy]
      · rename_i hut
        split at he
        · rename_i hok
          cases he
          refine OpOk.same rfl hR (v' := .tuple #[zv, .bool false]) ?_ ⟨_, rfl, VRs.cons hzV (VRs.cons rfl VRs.nil)⟩
          cases d <;> first | (exact absurd rfl (hd _)) | simp [execOp, hop, Instr.typeAssert, run_underlying hu, hy, hok, hut, hzr]
        · cases he
    · cases he
  · cases h
end
end Go.AI
