/- THE SECOND MACHINE, 10: reading and writing variables, wholes that are built, rows that are made and cut. Own work. -/
import Derived.Test.YtmjhiaedgpikdaaA9
import Derived.Laws.Tables
import Derived.Laws.MakeOwn
set_option linter.unusedSimpArgs false
set_option linter.unusedVariables false
namespace Go.AI
section
variable {P : Program} {o : Oper} {ao : AOp}

theorem ok_load {t : TypeId} {x : Operand} (hop : o.op = .load t x) (h : trOp P o.op = some ao) : OpOk P o ao := by
  intro φ w0 T H a w v H' hT hR he
  rw [hop] at h
  simp only [trOp] at h
  split at h
  · rename_i s x' hs hx
    cases h
    obtain ⟨h1, h2⟩ := selT_run hs w
    have hvx := ev_VR hT hR hx
    cases s with
    | none =>
      simp only [opF] at he
      split at he
      · rename_i i p hp
        rw [hp] at hvx
        obtain ⟨l, hl, hb⟩ := hvx
        split at he
        · rename_i u hload
          cases he
          obtain ⟨vs, hlen, hv, _, hc⟩ := hR.run_load hl hload P ⟨l.blk, l.off + p, none⟩ (fun _ => rfl)
          obtain ⟨y, rfl, hy⟩ := VRs.one_iff.1 hv
          have hcell := hc 0 y rfl
          rw [addr_add, Nat.add_zero] at hcell
          exact OpOk.same rfl hR (v' := y) (by simp [execOp, hop, Instr.loadAt, hb, Instr.sureAddr, loadVar, h1, hcell]) hy
        · cases he
      · cases he
    | some n =>
      simp only [opF] at he
      split at he
      · rename_i i p hp
        rw [hp] at hvx
        obtain ⟨l, hl, hb⟩ := hvx
        simp only [Option.map_eq_some_iff] at he
        obtain ⟨cs, hload, he⟩ := he
        cases he
        obtain ⟨vs, hlen, hv, hrun, _⟩ := hR.run_load hl hload P ⟨l.blk, l.off + p, none⟩ (fun _ => rfl)
        refine OpOk.same rfl hR (v' := .agg vs.toArray) ?_ ⟨_, rfl, by simpa using hv⟩
        simp [execOp, hop, Instr.loadAt, hb, Instr.sureAddr, loadVar, h1, h2 n rfl, hrun]
      · cases he
  · cases h

theorem ok_store {t : TypeId} {x y : Operand} (hop : o.op = .store t x y) (h : trOp P o.op = some ao) : OpOk P o ao := by
  intro φ w0 T H a w v H' hT hR he
  rw [hop] at h
  simp only [trOp] at h
  split at h
  · rename_i n x' y' hn hx hy
    cases h
    have hvx := ev_VR hT hR hx
    have hvy := ev_VR hT hR hy
    simp only [opF] at he
    split at he
    · rename_i i p hp
      rw [hp] at hvx
      obtain ⟨l, hl, hb⟩ := hvx
      split at he
      · rename_i hc
        simp only [Option.map_eq_some_iff] at he
        obtain ⟨H1, hst, he⟩ := he
        cases he
        have hcs := hvy.cells hc.1
        obtain ⟨w', h1, h2, h3⟩ := hR.run_store hl hst hcs P ⟨l.blk, l.off + p, none⟩ (fun _ => rfl)
        have hsz : (a.eval y).cells.size = n := by rw [← hcs.of_array]; exact hc.2
        refine ⟨φ, undef, w', .inr ⟨?_, rfl⟩, h3, ⟨_, rfl, VRs.nil⟩, h2⟩
        simp [execOp, hop, Instr.storeAt, hb, Instr.sureAddr, storeVar, run_sizeT hn, hsz, h1]
      · cases he
    · cases he
  · cases h

theorem fold_lay (us : List Value) : ∀ (cs : Array Value) (off j0 : Nat), off + j0 + us.length ≤ cs.size →
    ((us.zipIdx j0).foldl (fun cs (c, j) => cs.setIfInBounds (off + j) c) cs).toList = lay cs.toList (off + j0) us := by
  induction us with
  | nil => intro cs off j0 h; simp [lay]
  | cons u us ih =>
    intro cs off j0 h
    simp only [List.zipIdx_cons, List.foldl_cons, List.length_cons] at h ⊢
    rw [ih _ off (j0 + 1) (by simp; omega)]
    unfold lay
    rw [Array.toList_setIfInBounds]
    have e := list_seg_step cs.toList (off + j0) u us (by simpa using h)
    rw [show off + (j0 + 1) = off + j0 + 1 by omega]
    simpa using e

theorem run_fillA {φ : Emb} {w0 w : World} {T : Trie AV} {H : AHeap} {a : Act} (hT : TR φ T a.tmps) (hR : Rel φ w0 H w) (places : Nat → Option (Nat × Nat)) :
    ∀ (parts : List (Nat × Operand)) (l : List (Nat × Nat × X)) (z : List AV) (zv : Array Value) (cs : List AV), trParts places parts = some l → VRs φ z zv.toList → fill T z l = some cs →
      ∃ cs' : Array Value, Instr.fill places zv (parts.map fun (i, x) => (i, a.eval x)) = some cs' ∧ VRs φ cs cs'.toList
  | [], l, z, zv, cs, hp, hz, hf => by
    simp only [trParts] at hp
    cases hp
    simp only [fill] at hf
    cases hf
    exact ⟨zv, rfl, hz⟩
  | (i, x) :: r, l, z, zv, cs, hp, hz, hf => by
    unfold trParts at hp
    split at hp
    · rename_i off n x' l' hpl hx hl
      cases hp
      unfold fill at hf
      simp only at hf
      split at hf
      · rename_i hc
        obtain ⟨hok, hlen, hle⟩ := hc
        have hv := (ev_VR hT hR hx).cells hok
        have hvl := hv.of_array
        have hzl := hz.of_array
        have hlay : VRs φ (lay z off (ev T x').cells) ((((a.eval x).cells.zipIdx).foldl (fun cs (c, j) => cs.setIfInBounds (off + j) c) zv)).toList := by
          have e := fold_lay (a.eval x).cells.toList zv off 0 (by simp; omega)
          rw [← Array.foldl_toList, Array.toList_zipIdx]
          rw [e]
          exact VRs.lay hz hv off
        obtain ⟨cs', h1, h2⟩ := run_fillA hT hR places r l' _ _ cs hl hlay hf
        refine ⟨cs', ?_, h2⟩
        simp only [List.map_cons, Instr.fill, hpl]
        rw [if_neg]
        · exact h1
        · simp only [Bool.or_eq_true, ne_eq, decide_eq_true_eq, Nat.not_lt, not_or, Decidable.not_not]
          omega
      · cases hf
    · cases hp

theorem ok_build {t : TypeId} {parts : Array (Nat × Operand)} (hop : o.op = .build t parts) (h : trOp P o.op = some ao) : OpOk P o ao := by
  intro φ w0 T H a w v H' hT hR he
  rw [hop] at h
  simp only [trOp] at h
  have main : ∀ (places : Nat → Option (Nat × Nat)) (z : List AV) (l : List (Nat × Nat × X)) (zv : Value), trParts places parts.toList = some l → VRs φ z zv.cells.toList →
      opF (.build z l) T H = some (v, H') →
      (∀ cs', Instr.fill places zv.cells (parts.toList.map fun (i, x) => (i, a.eval x)) = some cs' → P.built t (parts.map fun (i, x) => (i, a.eval x)).toList = some cs') →
      ∃ φ' v' w', Res ((execOp a.eval o).run P w) v' w' ∧ Step φ H φ' H' ∧ VR φ' v v' ∧ Rel φ' w0 H' w' := by
    intro places z l zv hp hz he hb
    simp only [opF, Option.map_eq_some_iff] at he
    obtain ⟨cs, hcs, he⟩ := he
    cases he
    obtain ⟨cs', h1, h2⟩ := run_fillA hT hR places _ _ _ _ _ hp hz hcs
    have hrun := run_build w t (parts.map fun (i, x) => (i, a.eval x)) cs' (hb cs' h1)
    exact OpOk.same rfl hR (v' := .agg cs') (by simp only [execOp, hop, Sem.run_bind, hrun, Result.andThen_ok]; rfl) ⟨_, rfl, h2⟩
  split at h
  · rename_i fs z hu hz
    split at h
    · rename_i places hpl
      simp only [Option.map_eq_some_iff] at h
      obtain ⟨l, hl, rfl⟩ := h
      obtain ⟨zv, i, hi, hiz, hsz, hzv⟩ := zeroCellsT_run hz
      refine main _ z l zv hl (hzv φ) he ?_
      intro cs' hcs'
      have e : (places.toArray[·]? : Nat → Option (Nat × Nat)) = (places[·]?) := by funext k; simp
      simp only [Program.built, hi, hu, hiz, hpl]
      rw [e]
      simpa using hcs'
    · cases h
  · rename_i n e z hu hz
    split at h
    · rename_i m hm
      simp only [Option.map_eq_some_iff] at h
      obtain ⟨l, hl, rfl⟩ := h
      obtain ⟨zv, i, hi, hiz, hsz, hzv⟩ := zeroCellsT_run hz
      simp only [sizeT, Option.map_eq_some_iff] at hm
      obtain ⟨ie, hie, rfl⟩ := hm
      refine main _ z l zv hl (hzv φ) he ?_
      intro cs' hcs'
      simp only [Program.built, hi, hu, hiz, hie]
      simpa using hcs'
    · cases h
  · cases h

theorem get_flatten_replicate {α : Type} (z : List α) : ∀ (n j : Nat), j < n * z.length → (List.replicate n z).flatten[j]? = z[j % z.length]?
  | 0, j, h => by simp at h
  | n + 1, j, h => by
    simp only [List.replicate_succ, List.flatten_cons, List.getElem?_append]
    by_cases hj : j < z.length
    · rw [if_pos hj, Nat.mod_eq_of_lt hj]
    · rw [if_neg hj, get_flatten_replicate z n (j - z.length) (by rw [Nat.add_mul] at h; omega)]
      rw [Nat.mod_eq_sub_mod (by omega : j ≥ z.length)]

theorem zeros_cells {φ : Emb} {z : List AV} {zv : Array Value} (hz : VRs φ z zv.toList) (n m : Nat) (hm : m = n * zv.size) : VRs φ (zeros z n) ((Array.range m).map (zv[· % zv.size]!)).toList := by
  have hlen := hz.of_array
  subst hm
  refine VRs.of_get ?_ ?_
  · simp [zeros, hlen]
  · intro j x y hx hy
    have hj : j < n * zv.size := by
      have := (List.getElem?_eq_some_iff.1 hy).1
      simpa using this
    have hy' : y = zv[j % zv.size]! := by
      simp [hj] at hy
      exact hy.symm
    have hx' : z[j % zv.size]? = some x := by
      rw [← hx]
      unfold zeros
      rw [get_flatten_replicate z n j (by rw [hlen]; exact hj), hlen]
    obtain ⟨v', h1, h2⟩ := hz.get hx'
    rw [Array.getElem?_toList] at h1
    rw [hy', getElem!_def, h1]
    exact h2

theorem al_buildSlice {t : TypeId} {len : Nat} {parts : Array (Nat × Operand)} (hop : o.op = .buildSlice t len parts) (h : trOp P o.op = some ao) : isAl ao = true ∧ AlOk P o ao := by
  rw [hop] at h
  simp only [trOp] at h
  split at h
  · rename_i e hu
    split at h
    · rename_i z hz
      split at h
      · cases h
      · rename_i hbig
        simp only [Option.map_eq_some_iff] at h
        obtain ⟨l, hl, rfl⟩ := h
        refine ⟨rfl, ?_⟩
        intro φ w0 T H a w r hT hR he
        obtain ⟨zv, i, hi, hiz, hsz, hzv⟩ := zeroCellsT_run hz
        have hzl := (hzv φ).of_array
        simp only [alF, Option.map_eq_some_iff] at he
        obtain ⟨cs, hcs, he⟩ := he
        cases he
        have hz0 : VRs φ (zeros z len) ((Array.range (len * i.size)).map ((if len * i.size = 0 then #[] else zv.cells)[· % (if len * i.size = 0 then (#[] : Array Value) else zv.cells).size]!)).toList := by
          by_cases h0 : len * i.size = 0
          · rw [h0]
            have : zeros z len = [] := by
              apply List.eq_nil_of_length_eq_zero
              simp [zeros, ← hsz, h0]
            rw [this]
            simp [VRs]
          · rw [if_neg h0]
            exact zeros_cells (hzv φ) len _ (by rw [hsz, hzl])
        obtain ⟨cs', h1, h2⟩ := run_fillA hT hR _ _ _ _ _ _ hl hz0 hcs
        have hbig' : ¬ (16777216 < len * i.size) := by rw [hsz]; simpa using hbig
        rw [← hsz] at h1
        refine ⟨.slice (some ⟨w.heap.size, 0, none⟩) len len, .cells cs' e, ?_, BR_cells h2 e, fun ψ i h => ⟨Nat.le_refl _, _, h, _, _, rfl, rfl, fun _ => rfl⟩⟩
        by_cases h0 : len * i.size = 0
        · simp only [h0, if_true] at h1
          simp at h1
          simp [execOp, hop, Instr.buildSlice, run_underlying hu, sizeOf, run_typeInfo' hi, h0, h1, newRow]
        · simp only [h0, if_false] at h1
          simp [execOp, hop, Instr.buildSlice, run_underlying hu, sizeOf, run_typeInfo' hi, zeroValue, hiz, h0, h1, hbig', newRow]
    · cases h
  · cases h

theorem al_makeSlice {t : TypeId} {l c : Operand} (hop : o.op = .makeSlice t l c) (h : trOp P o.op = some ao) : isAl ao = true ∧ AlOk P o ao := by
  rw [hop] at h
  simp only [trOp] at h
  split at h
  · rename_i e hu
    split at h
    · rename_i i z l' c' hi hz hl hc
      split at h
      · cases h
      · rename_i hb0
        cases h
        refine ⟨rfl, ?_⟩
        intro φ w0 T H a w r hT hR he
        obtain ⟨zv, i', hi', hiz, hsz, hzv⟩ := zeroCellsT_run hz
        rw [hi] at hi'
        cases hi'
        have hzl := (hzv φ).of_array
        have hvl := ev_VR hT hR hl
        have hvc := ev_VR hT hR hc
        simp only [alF] at he
        split at he
        · rename_i kl n kc m hn hm
          split at he
          · rename_i hb
            cases he
            rw [hn] at hvl
            rw [hm] at hvc
            have hvl : a.eval l = .int kl n := hvl
            have hvc : a.eval c = .int kc m := hvc
            obtain ⟨hb1, hb2, hb3, hb4⟩ := hb
            have hrun := run_make (P := P) w t e i zv hu hi hiz kl kc n m hb1 hb2 (by rw [Int.mul_comm]; simp only [reachB] at hb3; omega) (by simp only [reachB] at hb4; omega)
            have hv : VRs φ (zeros z m.toNat) (madeCells zv.cells (m.toNat * i.size)).toList := zeros_cells (hzv φ) m.toNat _ (by rw [hsz, hzl])
            refine ⟨.slice (some ⟨w.heap.size, 0, none⟩) n.toNat m.toNat, .cells (madeCells zv.cells (m.toNat * i.size)) e, ?_, BR_cells hv e, fun ψ i h => ⟨by omega, _, h, _, _, rfl, rfl, fun _ => rfl⟩⟩
            simp only [execOp, hop, hvl, hvc, Sem.run_bind, hrun, Result.andThen_ok]
            rfl
          · cases he
        · cases he
    · cases h
  · cases h
theorem ok_buildSlice {t : TypeId} {len : Nat} {parts : Array (Nat × Operand)} (hop : o.op = .buildSlice t len parts) (h : trOp P o.op = some ao) : OpOk P o ao := (al_buildSlice hop h).2.op (al_buildSlice hop h).1
theorem ok_makeSlice {t : TypeId} {l c : Operand} (hop : o.op = .makeSlice t l c) (h : trOp P o.op = some ao) : OpOk P o ao := (al_makeSlice hop h).2.op (al_makeSlice hop h).1

theorem run_bound {φ : Emb} {x : AV} {n y : Nat} (h : bound x n = some y) {v : Value} (hv : VR φ x v) {m : Nat} (hm : n ≤ m) (code : BoundsCode) (w : World) : (Instr.sliceBound v m code).run P w = .ok y w ∧ y ≤ n := by
  unfold bound at h
  split at h
  · rename_i k i
    split at h
    · rename_i hb
      cases h
      have hv : v = .int k i := hv
      subst hv
      have h2 : i ≤ (m : Int) := by omega
      refine ⟨by simp [Instr.sliceBound, asIntOf, hb.1, h2], by omega⟩
    · cases h
  · cases h

theorem trO_none {x : Option X} (h : trO (none : Option Operand) = some x) : x = none := by cases h; rfl
theorem trO_some {y : Operand} {x : Option X} (h : trO (some y) = some x) : ∃ x', x = some x' ∧ trX y = some x' := by
  simp only [trO, Option.map_eq_some_iff] at h
  obtain ⟨x', h1, rfl⟩ := h
  exact ⟨x', rfl, h1⟩

/-- The bounds of a cut: (l, h, m). -/
theorem run_sliceBounds {φ : Emb} {w0 w : World} {T : Trie AV} {H : AHeap} {a : Act} (hT : TR φ T a.tmps) (hR : Rel φ w0 H w) {lo hi mx : Option Operand} {lo' hi' mx' : Option X}
    (h1 : trO lo = some lo') (h2 : trO hi = some hi') (h3 : trO mx = some mx') (hc : ¬ (mx'.isSome && hi'.isNone) = true) {len cap cap' : Nat} (hcap : cap ≤ cap') {m h l : Nat}
    (hb : bnds T lo' hi' mx' len cap = some (l, h, m)) (hlen : len ≤ cap) :
    (Instr.sliceBounds true len cap' (lo.map a.eval) (hi.map a.eval) (mx.map a.eval)).run P w = .ok (l, h, if mx.isNone then cap' else m) w ∧ l ≤ h ∧ h ≤ m ∧ m ≤ cap ∧ (mx = none → m = cap) := by
  obtain ⟨e1, e2, e3⟩ : bnd T mx' cap cap = some m ∧ bnd T hi' m len = some h ∧ bnd T lo' h 0 = some l := by
    unfold bnds at hb
    split at hb
    · cases hb
    · rename_i m' hm'
      split at hb
      · cases hb
      · rename_i h' hh'
        split at hb
        · cases hb
        · rename_i l' hl'
          cases hb
          exact ⟨hm', hh', hl'⟩
  have hm : (mx = none ∧ mx' = none ∧ m = cap) ∨ (∃ y x, mx = some y ∧ mx' = some x ∧ trX y = some x ∧ bound (ev T x) cap = some m) := by
    cases mx with
    | none => obtain rfl := trO_none h3; simp only [bnd, Option.some.injEq] at e1; exact .inl ⟨rfl, rfl, e1.symm⟩
    | some y => obtain ⟨x, rfl, hx⟩ := trO_some h3; exact .inr ⟨y, x, rfl, rfl, hx, e1⟩
  have hh : (hi = none ∧ hi' = none ∧ h = len) ∨ (∃ y x, hi = some y ∧ hi' = some x ∧ trX y = some x ∧ bound (ev T x) m = some h) := by
    cases hi with
    | none => obtain rfl := trO_none h2; simp only [bnd, Option.some.injEq] at e2; exact .inl ⟨rfl, rfl, e2.symm⟩
    | some y => obtain ⟨x, rfl, hx⟩ := trO_some h2; exact .inr ⟨y, x, rfl, rfl, hx, e2⟩
  have hl : (lo = none ∧ lo' = none ∧ l = 0) ∨ (∃ y x, lo = some y ∧ lo' = some x ∧ trX y = some x ∧ bound (ev T x) h = some l) := by
    cases lo with
    | none => obtain rfl := trO_none h1; simp only [bnd, Option.some.injEq] at e3; exact .inl ⟨rfl, rfl, e3.symm⟩
    | some y => obtain ⟨x, rfl, hx⟩ := trO_some h1; exact .inr ⟨y, x, rfl, rfl, hx, e3⟩
  have lowpart : ∀ code, (match lo.map a.eval with | some v => Instr.sliceBound v h code | none => (pure 0 : Sem Nat)).run P w = .ok l w ∧ l ≤ h := by
    intro code
    rcases hl with ⟨rfl, _, rfl⟩ | ⟨y, x, rfl, _, hx, hb⟩
    · exact ⟨rfl, Nat.zero_le _⟩
    · exact run_bound hb (ev_VR hT hR hx) (Nat.le_refl _) code w
  rcases hm with ⟨rfl, rfl, rfl⟩ | ⟨y, x, rfl, rfl, hx, hb⟩
  · rcases hh with ⟨rfl, rfl, rfl⟩ | ⟨y, x, rfl, rfl, hx, hb⟩
    · obtain ⟨k1, k2⟩ := lowpart .sliceB
      refine ⟨?_, k2, hlen, Nat.le_refl _, fun _ => rfl⟩
      simp [Instr.sliceBounds]
      cases lo with
      | none => simp at k1 ⊢; exact k1
      | some q => simp at k1 ⊢; simp [k1]
    · obtain ⟨k1, k2⟩ := lowpart .sliceB
      obtain ⟨k3, k4⟩ := run_bound (P := P) hb (ev_VR hT hR hx) hcap .sliceAcap w
      refine ⟨?_, k2, k4, Nat.le_refl _, fun _ => rfl⟩
      simp [Instr.sliceBounds, k3]
      cases lo with
      | none => simp at k1 ⊢; exact k1
      | some q => simp at k1 ⊢; simp [k1]
  · obtain ⟨k5, k6⟩ := run_bound (P := P) hb (ev_VR hT hR hx) hcap .slice3Acap w
    rcases hh with ⟨rfl, rfl, rfl⟩ | ⟨y', x', rfl, rfl, hx', hb'⟩
    · simp at hc
    · obtain ⟨k1, k2⟩ := lowpart .slice3C
      obtain ⟨k3, k4⟩ := run_bound (P := P) hb' (ev_VR hT hR hx') (Nat.le_refl _) .slice3B w
      refine ⟨?_, k2, k4, k6, fun e => by cases e⟩
      simp [Instr.sliceBounds, k3, k5]
      cases lo with
      | none => simp at k1 ⊢; exact k1
      | some q => simp at k1 ⊢; simp [k1]

theorem ok_slice {t : TypeId} {x : Operand} {lo hi mx : Option Operand} (hop : o.op = .slice t x lo hi mx) (h : trOp P o.op = some ao) : OpOk P o ao := by
  intro φ w0 T H a w v H' hT hR he
  rw [hop] at h
  simp only [trOp] at h
  split at h
  · rename_i e hu
    split at h
    · rename_i n x' lo' hi' mx' hn hx h1 h2 h3
      split at h
      · cases h
      · rename_i hc
        cases h
        have hvx := ev_VR hT hR hx
        simp only [opF, Option.map_eq_some_iff] at he
        obtain ⟨r, hr, he⟩ := he
        cases he
        have hex : (execOp a.eval o).run P w = ((Instr.slice t (a.eval x) (lo.map a.eval) (hi.map a.eval) (mx.map a.eval)).run P w).andThen fun v w => .ok (.value v) w := by
          simp only [execOp, hop, Instr.sliceAt, Sem.run_bind, run_underlying hu, Result.andThen_ok]
          rfl
        unfold sliceOp at hr
        split at hr
        · rename_i hn0
          rw [hn0] at hvx
          have hvx : a.eval x = .slice none 0 0 := hvx
          simp only [Option.map_eq_some_iff] at hr
          obtain ⟨⟨l, h', m⟩, hb, rfl⟩ := hr
          obtain ⟨k1, k2, k3, k4, k5⟩ := run_sliceBounds (P := P) hT hR h1 h2 h3 hc (Nat.le_refl 0) hb (Nat.le_refl 0)
          have hm0 : m = 0 := by omega
          have hl0 : l = 0 := by omega
          have hh0 : h' = 0 := by omega
          subst hm0; subst hl0; subst hh0
          refine OpOk.same rfl hR (v' := .slice none 0 0) ?_ rfl
          rw [hex, hvx]
          simp [Instr.slice, run_underlying hu, k1, run_sizeT hn]
        · rename_i i off len cap tail hs
          rw [hs] at hvx
          obtain ⟨hle, lc, hl, b, c, hbc, hcc, ha⟩ := hvx
          simp only [Option.map_eq_some_iff] at hr
          obtain ⟨⟨l, h', m⟩, hb, rfl⟩ := hr
          obtain ⟨k1, k2, k3, k4, k5⟩ := run_sliceBounds (P := P) hT hR h1 h2 h3 hc (show cap ≤ c by omega) hb hle
          refine OpOk.same rfl hR (v' := .slice (some (if (if mx.isNone then c else m) = l then b else b.add (l * n))) (h' - l) ((if mx.isNone then c else m) - l)) ?_ ?_
          · rw [hex, hbc]
            simp only [Instr.slice, Sem.run_bind, run_underlying hu, Result.andThen_ok, k1, run_sizeT hn, Sem.run_pure]
            congr 4
            split <;> (split <;> rfl)
          · have hmx : mx'.isNone = mx.isNone := by
              cases mx with
              | none => simp [trO_none h3]
              | some y => obtain ⟨x, rfl, _⟩ := trO_some h3; rfl
            refine ⟨by dsimp only; omega, lc, hl, _, _, rfl, ?_, ?_⟩
            · rw [hmx]
              cases mx with
              | none => have := k5 rfl; cases tail <;> simp at hcc ⊢ <;> omega
              | some y => simp
            · intro hne
              rw [if_neg (by omega), ha (by split at hne <;> omega), addr_add, Nat.add_assoc]
        · cases hr
    · cases h
  · cases h
end
end Go.AI
