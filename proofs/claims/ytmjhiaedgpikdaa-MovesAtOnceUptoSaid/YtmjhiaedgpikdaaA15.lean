/- THE SECOND MACHINE, 15: any operation, calls among them. Own work. -/
import Derived.Test.YtmjhiaedgpikdaaA14
import Derived.Orders
set_option linter.unusedSimpArgs false
set_option linter.unusedVariables false
namespace Go.AI
section
variable {P : Program} {o : Oper} {ao : AOp}

theorem ok_vacuous (h : ∀ T H, opF ao T H = none) : OpOk P o ao := by
  intro φ w0 T H a w v H' _ _ he
  rw [h] at he
  cases he

theorem ok_builtin {b : Builtin} {args : Array Operand} {ats : Array TypeId} (hop : o.op = .call { callee := .builtin b, args := args, argTypes := ats }) (h : trOp P o.op = some ao) : OpOk P o ao := by
  rw [hop] at h
  simp only [trOp] at h
  generalize hl : args.toList = l at h
  generalize hk : ats.toList = k at h
  unfold trBuiltin at h
  split at h
  · exact ok_len hop hl hk (by simpa [trBuiltin] using h)
  · exact ok_append hop hl hk (by simpa [trBuiltin] using h)
  · exact ok_copy hop hl hk (by simpa [trBuiltin] using h)
  · exact ok_clear hop hl hk (by simpa [trBuiltin] using h)
  · exact ok_delete hop hl hk (by simpa [trBuiltin] using h)
  · exact ok_mx hop hl (by simpa [trBuiltin] using h)
  · exact ok_mn hop hl (by simpa [trBuiltin] using h)
  · cases h

theorem ok_op (h : trOp P o.op = some ao) : OpOk P o ao := by
  cases hop : o.op with
  | move x => exact ok_move (.inl hop) h
  | assign x => exact ok_move (.inr hop) h
  | pick c x y => exact ok_pick hop h
  | alloc e => exact ok_alloc hop h
  | box e x => exact ok_box hop h
  | build t ps => exact ok_build hop h
  | buildSlice t l ps => exact ok_buildSlice hop h
  | insert t m k x => exact ok_mapSet (.inr hop) h
  | load t x => exact ok_load hop h
  | store t x y => exact ok_store hop h
  | nilCheck x => exact ok_nilCheck hop h
  | binOp op t x y u => exact ok_binOp hop h
  | unOp op t x => exact ok_unOp hop h
  | convert s d x => exact ok_convert hop h
  | makeInterface t x => exact ok_makeInterface hop h
  | makeFunc f x y => exact ok_makeFunc hop h
  | makeMap t r => exact ok_makeMap hop h
  | makeSlice t l c => exact ok_makeSlice hop h
  | slice t x lo hi mx => exact ok_slice hop h
  | fieldAddr t x f => exact ok_fieldAddr hop h
  | field t x f => exact ok_field hop h
  | indexAddr t x i => exact ok_indexAddr hop h
  | index t x i => exact ok_index hop h
  | lookup t x i c => exact ok_lookup hop h
  | mapUpdate t m k x => exact ok_mapSet (.inl hop) h
  | mapEntry t m k => exact ok_mapEntry hop h
  | entryStore t m s x => exact ok_entryStore hop h
  | typeAssert x xt t c => exact ok_typeAssert hop h
  | extract x i => exact ok_extract hop h
  | call c =>
    obtain ⟨callee, args, ats⟩ := c
    cases callee with
    | value f => rw [hop] at h; simp [trOp] at h
    | invoke r m => rw [hop] at h; simp [trOp] at h
    | builtin b => exact ok_builtin hop h
  | _ => rw [hop] at h; simp [trOp] at h

theorem ok_al (h : trOp P o.op = some ao) (hal : isAl ao = true) : AlOk P o ao := by
  cases hop : o.op with
  | alloc e => exact (al_alloc hop h).2
  | box e x => exact (al_box hop h).2
  | buildSlice t l ps => exact (al_buildSlice hop h).2
  | makeMap t r => exact (al_makeMap hop h).2
  | makeSlice t l c => exact (al_makeSlice hop h).2
  | call c =>
    exfalso
    obtain ⟨callee, args, ats⟩ := c
    cases callee with
    | value f => rw [hop] at h; simp [trOp] at h
    | invoke r m => rw [hop] at h; simp [trOp] at h
    | builtin b =>
      rw [hop] at h
      simp only [trOp, trBuiltin] at h
      (repeat' split at h) <;> first
        | (cases h; done)
        | (cases h; cases hal; done)
        | (simp only [Option.map_eq_some_iff] at h; obtain ⟨_, _, rfl⟩ := h; cases hal; done)
  | makeFunc f x y =>
    exfalso
    rw [hop] at h
    cases f <;> simp only [trOp, reduceCtorEq] at h
    split at h
    · cases h; cases hal
    · cases h
  | _ =>
    exfalso
    rw [hop] at h
    simp only [trOp, trBin] at h
    first
      | (cases h; done)
      | (simp only [Option.map_eq_some_iff] at h; obtain ⟨_, _, rfl⟩ := h; cases hal; done)
      | (repeat' split at h) <;> first
        | (cases h; done)
        | (cases h; cases hal; done)
        | (simp only [Option.map_eq_some_iff] at h; obtain ⟨_, _, rfl⟩ := h; cases hal; done)

/-- What may be called. -/
def Callable (P : Program) (f : FuncId) : Prop := ∃ fn, P.funcs[f]? = some fn ∧ (fn.name == "runtime.NumGoroutine") = false ∧ fn.body.isNone = false

/-- The calls of the second machine are those of the model. -/
def CallOk (P : Program) (call : CallT) : Prop :=
  ∀ f args H v H', call f args H = some (v, H') → Callable P f ∧ H.next ≤ H'.next ∧ ∀ (φ : Emb) (w0 w : World) (args' : Array Value), Rel φ w0 H w → VRs φ args args'.toList →
    Calls P f args' w fun e w' => ∃ v' φ', e = .returned v' ∧ Step φ H φ' H' ∧ VR φ' v v' ∧ Rel φ' w0 H' w'

theorem TR.mono {φ ψ : Emb} {T : Trie AV} {tmps : Array Value} (h : TR φ T tmps) (hle : φ.le ψ) : TR ψ T tmps := fun t => (h t).mono hle
theorem get_put_same (T : Trie AV) (d : Nat) (v : AV) : St.get (T.put d (some v)) d = v := by simp [St.get, Trie.get_put]
theorem get_put_ne (T : Trie AV) {d t : Nat} (v : AV) (h : t ≠ d) : St.get (T.put d (some v)) t = St.get T t := by simp [St.get, Trie.get_put, h]
theorem get_put_if (T : Trie AV) (d t : Nat) (v : AV) : St.get (T.put d (some v)) t = if t = d then v else St.get T t := by
  split
  · rename_i h; subst h; exact get_put_same _ _ _
  · rename_i h; exact get_put_ne _ _ h
theorem getD_set (tmps : Array Value) (d t : Nat) (v : Value) (hd : d < tmps.size) : (tmps.setIfInBounds d v).getD t undef = if t = d then v else tmps.getD t undef := by
  by_cases h : t = d
  · subst h; simp [Array.getD, hd]
  · rw [if_neg h]
    simp only [Array.getD_eq_getD_getElem?]
    rw [Array.getElem?_setIfInBounds_ne (fun e => h e.symm)]
theorem TR.put {φ : Emb} {s : St} {a : Act} (h : TR φ s.T a.tmps) {d : Option Nat} (hd : ∀ t, d = some t → t < a.tmps.size) {v : AV} {v' : Value} (hv : VR φ v v') : TR φ (s.put d v).T (a.put d v').tmps := by
  cases d with
  | none => exact h
  | some d =>
    intro t
    have := hd d rfl
    simp only [St.put, Act.put]
    rw [get_put_if, getD_set _ _ _ _ this]
    split
    · exact hv
    · exact h t
theorem St.put_H (s : St) (d : Option Nat) (v : AV) : (s.put d v).H = s.H := by cases d <;> rfl
theorem Act.put_size (a : Act) (d : Option Nat) (v : Value) : (a.put d v).tmps.size = a.tmps.size := by cases d <;> simp [Act.put]
theorem Act.put_defers' (a : Act) (d : Option Nat) (v : Value) : (a.put d v).defers = a.defers := by cases d <;> rfl

/-- How a frame of the second machine and one of the model stand to one another. -/
structure SR (φ : Emb) (w0 : World) (N : Nat) (s : St) (a : Act) (w : World) : Prop where
  t : TR φ s.T a.tmps
  h : Rel φ w0 s.H w
  size : N ≤ a.tmps.size
  defers : a.defers = []

/-- An operation read. -/
structure TrOper (P : Program) (ops : Array Oper) (N : Nat) (o : Oper) (ao : AOper) : Prop where
  op : trOpC P o.op = some ao.op ∨ ao.op = .bad
  dst : ao.dst = o.dst
  lt : ∀ d, o.dst = some d → d < N
  guard : match o.guard with
    | none => ao.guard = none
    | some (j, b) => ∃ t, (ops[j]?).bind (·.dst) = some t ∧ ao.guard = some (t, b)

theorem wanted_ok {φ : Emb} {ops : Array Oper} {N : Nat} {ao : AOper} (ht : TrOper P ops N o ao) {T : Trie AV} {tmps : Array Value} (hT : TR φ T tmps) {b : Bool} (h : wanted T ao.guard = some b) :
    Region.wanted o (yielded ops tmps) = b := by
  have hg := ht.guard
  cases hog : o.guard with
  | none =>
    rw [hog] at hg
    simp only at hg
    rw [hg] at h
    simp only [wanted] at h
    cases h
    simp [Region.wanted, hog]
  | some p =>
    obtain ⟨j, c⟩ := p
    rw [hog] at hg
    simp only at hg
    obtain ⟨t, hj, hgt⟩ := hg
    rw [hgt] at h
    simp only [wanted] at h
    have hv := hT t
    simp only [Region.wanted, hog, yielded, hj, Option.bind_some]
    have hgd : tmps.getD t undef = (tmps[t]?).getD undef := by simp [Array.getD_eq_getD_getElem?]
    split at h
    · rename_i x hx
      cases h
      rw [hx] at hv
      have hv : tmps.getD t undef = .bool x := hv
      rw [hgd] at hv
      cases hq : tmps[t]? with
      | none => rw [hq] at hv; simp [undef] at hv
      | some y => rw [hq] at hv; simp at hv; subst hv; simp
    · cases h
    · rename_i hnb hnj
      cases h
      have : ∀ x, tmps[t]? ≠ some (.bool x) := by
        intro x hx
        rw [hgd, hx] at hv
        simp only [Option.getD_some] at hv
        cases hs : St.get T t <;> rw [hs] at hv <;> first
          | (exact hnb _ hs)
          | (exact hnj hs)
          | exact False.elim hv
          | (obtain ⟨l, _, e⟩ := hv; cases e; done)
          | (obtain ⟨_, l, _, b, c, e, _⟩ := hv; cases e; done)
          | (obtain ⟨b, c, e, _⟩ := hv; cases e; done)
          | (obtain ⟨b, e, _⟩ := hv; cases e; done)
          | (simp only [VR] at hv; cases hv; done)
      cases hq : tmps[t]? with
      | none => rfl
      | some y =>
        cases y <;> first
          | rfl
          | (exact absurd hq (this _))

/-- One operation, in whatever region. -/
theorem runOp_ok {call : CallT} (hc : CallOk P call) {φ : Emb} {w0 w : World} {N : Nat} {ops : Array Oper} {ao : AOper} (ht : TrOper P ops N o ao) {s s' : St} {a : Act}
    (hS : SR φ w0 N s a w) (he : runOp call ao s = some s') {i : Nat} (hi : ops[i]? = some o) (Q : Exit → Act → World → Prop) (K : Act → World → Prop)
    (hK : ∀ φ' v v' w', Step φ s.H φ' s'.H → VR φ' v v' → Rel φ' w0 s'.H w' → s'.T = (s.put ao.dst v).T → SR φ' w0 N s' (a.put o.dst v') w' → K (a.put o.dst v') w') : wpOp P ops Q i K a w := by
  unfold wpOp
  simp only [hi]
  unfold runOp at he
  have fin : ∀ {φ' : Emb} {v : AV} {v' : Value} {w' : World} {H' : AHeap}, Step φ s.H φ' H' → VR φ' v v' → Rel φ' w0 H' w' → s' = St.put { s with H := H' } ao.dst v → K (a.put o.dst v') w' := by
    intro φ' v v' w' H' h1 h2 h3 h4
    subst h4
    refine hK φ' v v' w' (by rw [St.put_H]; exact h1) h2 (by rw [St.put_H]; exact h3) (by cases ao.dst <;> rfl) ⟨?_, by rw [St.put_H]; exact h3, by rw [Act.put_size]; exact hS.size, by rw [Act.put_defers']; exact hS.defers⟩
    have := TR.put (s := { s with H := H' }) (a := a) (hS.t.mono h1.le) (d := o.dst) (fun t ht' => Nat.lt_of_lt_of_le (ht.lt t ht') hS.size) h2
    rw [ht.dst]
    exact this
  cases hw : wanted s.T ao.guard with
  | none => simp [hw] at he
  | some b =>
    have hw' := wanted_ok ht hS.t hw
    cases b with
    | false =>
      simp only [hw] at he
      cases he
      simp only [hw', Bool.false_eq_true, if_false]
      exact fin (Step.refl _ _) (v := .undef) ⟨_, rfl, VRs.nil⟩ hS.h rfl
    | true =>
      simp only [hw] at he
      simp only [hw', if_true]
      refine .inl ?_
      unfold Oper.wp
      split at he
      · rename_i v H' hop
        cases he
        have htop : trOpC P o.op = some ao.op := by
          rcases ht.op with h | h
          · exact h
          · rw [h] at hop; simp [opC, opF] at hop
        rcases trOpC_spec htop with ⟨f, args, ats, f', l, hoo, hf, hl, hao⟩ | ⟨htr, hnc⟩
        · rw [hao] at hop
          simp only [opC] at hop
          split at hop
          · rename_i g fa fb hfe
            obtain ⟨⟨fn, hfn, hname, hbody⟩, _, hcalls⟩ := hc _ _ _ _ _ hop
            have hvf := ev_VR hS.t hS.h hf
            have hva := evs_VR hS.t hS.h hl
            rw [hfe] at hvf
            obtain ⟨fa', fb', hfv, ha', hb'⟩ := hvf
            have hrun : (execOp a.eval o).run P w = .ok (.enter g ((fa' ++ args.map a.eval) ++ fb')) w := by
              have hcf : ∀ xs, (callFunc g xs).run P w = .ok (.enter g xs) w := by
                intro xs
                simp only [callFunc, Sem.run_bind, run_program, Result.andThen_ok, hfn, hname, hbody, Bool.false_eq_true, if_false, Sem.run_pure]
              simp only [execOp, hoo, resolve, Deferred.ofValue, hfv, pure_bind, invoke, hcf]
            rw [hrun, Oper.upon_enter]
            refine Calls.mono (hcalls φ w0 w _ hS.h ?_) ?_
            · simp only [Array.toList_append, Array.toList_map]
              exact (ha'.append hva).append hb'
            · rintro e w' ⟨v', φ', rfl, h1, h2, h3⟩
              exact fin h1 h2 h3 rfl
          · cases hop
        · have hop' : opF ao.op s.T s.H = some (v, H') := by
            unfold opC at hop
            split at hop
            · rename_i f l hao
              exact absurd hao (hnc f l)
            · exact hop
          obtain ⟨φ', v', w', hres, h1, h2, h3⟩ := ok_op htr φ w0 s.T s.H a w v H' hS.t hS.h hop'
          rcases hres with hres | ⟨hres, rfl⟩
          · rw [hres, Oper.upon_value]
            exact fin h1 h2 h3 rfl
          · rw [hres, Oper.upon_skip]
            exact fin h1 h2 h3 rfl
      · cases he

/-- A block that the second machine has made already is made by the model. -/
theorem runOp_late {φ : Emb} {w0 w : World} {N : Nat} {ops : Array Oper} {ao : AOper} (ht : TrOper P ops N o ao) (hal : isAl ao.op = true) {s : St} {a : Act}
    (hS : SR φ w0 N s a w) {r : AlV × ABlk} (hr : alF ao.op s.T = some r) (hw : wanted s.T ao.guard = some true) {k : Nat} (hk : k < s.H.next) (hn : φ (.n k) = none) (hg : s.H.get (.n k) = some r.2)
    {i : Nat} (hi : ops[i]? = some o) (Q : Exit → Act → World → Prop) (K : Act → World → Prop)
    (hK : ∀ v' w', φ.le (φ.upd (.n k) ⟨w.heap.size, 0, 0, false⟩) → SR (φ.upd (.n k) ⟨w.heap.size, 0, 0, false⟩) w0 N (s.put ao.dst (r.1.at (.n k))) (a.put o.dst v') w' → K (a.put o.dst v') w') : wpOp P ops Q i K a w := by
  unfold wpOp
  simp only [hi]
  have hw' := wanted_ok ht hS.t hw
  simp only [hw', if_true]
  refine .inl ?_
  unfold Oper.wp
  have htop : trOpC P o.op = some ao.op := by
    rcases ht.op with h | h
    · exact h
    · rw [h] at hal; cases hal
  rcases trOpC_spec htop with ⟨f, args, ats, f', l, hoo, hf, hl, hao⟩ | ⟨htr, hnc⟩
  · rw [hao] at hal
    cases hal
  · obtain ⟨v', obj, h1, h2, h3⟩ := ok_al htr hal φ w0 s.T s.H a w r hS.t hS.h hr
    rw [h1, Oper.upon_value]
    obtain ⟨g1, g2⟩ := hS.h.late k hk hn r.2 hg obj h2
    refine hK v' _ g2 ⟨?_, by rw [St.put_H]; exact g1, by rw [Act.put_size]; exact hS.size, by rw [Act.put_defers']; exact hS.defers⟩
    have := TR.put (s := s) (a := a) (hS.t.mono g2) (d := o.dst) (fun t ht' => Nat.lt_of_lt_of_le (ht.lt t ht') hS.size) (h3 _ _ (Emb.upd_same _ _ _))
    rw [ht.dst]
    exact this
end
end Go.AI
