/- THE SECOND MACHINE, 19: code and functions read; what they come to on both sides. Own work. -/
import Derived.Test.YtmjhiaedgpikdaaA18
import Derived.LoopN
import Derived.Scope
set_option linter.unusedSimpArgs false
set_option linter.unusedVariables false
namespace Go.AI

/-! ### the reading -/
def trGuard (ops : Array Oper) : Option (Nat × Bool) → Option (Option (Nat × Bool))
  | none => some none
  | some (j, b) => match (ops[j]?).bind (·.dst) with
    | some t => some (some (t, b))
    | none => none
def ltDst (N : Nat) : Option Nat → Bool
  | none => true
  | some d => Nat.blt d N
def trOper (P : Program) (ops : Array Oper) (N : Nat) (o : Oper) : Option AOper :=
  match trGuard ops o.guard with
  | some g => if ltDst N o.dst then some ⟨o.dst, (trOpC P o.op).getD .bad, g⟩ else none
  | _ => none
def trOps (P : Program) (ops : Array Oper) (N : Nat) : List Oper → Option (List AOper)
  | [] => some []
  | o :: r => match trOper P ops N o, trOps P ops N r with
    | some a, some l => some (a :: l)
    | _, _ => none

/-- The order that is carried out: what makes or writes nothing goes first. -/
def orderGo (ps : List (List Nat)) (eff : List Bool) : Nat → List Nat → Nat → List Nat
  | 0, _, _ => []
  | f + 1, rem, done =>
    let ready := fun i => (ps.getD i []).all fun p => done.testBit p
    match rem.find? (fun i => ready i && !(eff.getD i true)) with
    | some i => i :: orderGo ps eff f (rem.filter (fun j => !(Nat.beq j i))) (done ||| 2 ^ i)
    | none => match rem.find? ready with
      | some i => i :: orderGo ps eff f (rem.filter (fun j => !(Nat.beq j i))) (done ||| 2 ^ i)
      | none => []
def nodupB : List Nat → Bool
  | [] => true
  | x :: l => !(l.contains x) && nodupB l
def drawB (ops : Array Oper) (sg : List Nat) (l : List AOper) (M : List Nat) : Bool :=
  Nat.beq sg.length ops.size && Nat.beq l.length ops.size && ((List.range ops.size).all fun i => sg.contains i) && nodupB sg &&
  ((List.range ops.size).all fun i => match ops[i]? with | some o => (predsOf o).all fun p => Nat.blt p i | none => true) &&
  ((List.range ops.size).all fun r => (List.range r).all fun p => pairOk l M sg p r)
def pickL (l : List AOper) : List Nat → List AOper
  | [] => []
  | i :: r => match l[i]? with
    | some x => x :: pickL l r
    | none => pickL l r
def mkD (l : List AOper) (M sg : List Nat) : Nat → List AOper → List DOper
  | _, [] => []
  | r, x :: t => ⟨x, reOf l M sg r⟩ :: mkD l M sg (r + 1) t
def trD (P : Program) (ops : Array Oper) (N : Nat) : Option (List DOper) :=
  match trOps P ops N ops.toList with
  | some l0 =>
    let ps := ops.toList.map predsOf
    let M := masks ps ops.size
    let sg := orderGo ps (l0.map fun a => isEff a.op) ops.size (List.range ops.size) 0
    let l := pickL l0 sg
    if drawB ops sg l M then some (mkD l M sg 0 l) else none
  | none => none
def trC (P : Program) (N : Nat) : Code → Option ACode
  | .skip => some .skip
  | .label _ => some .skip
  | .region _ ops draw => some (((if draw then (trD P ops N).map .regionD else (trOps P ops N ops.toList).map .region)).getD .bad)
  | .seq a b => match trC P N a, trC P N b with
    | some x, some y => some (.seq x y)
    | _, _ => none
  | .cond c a b => match trC P N a, trC P N b with
    | some x, some y => some (match trX c with | some z => .cond z x y | none => .bad)
    | _, _ => none
  | .block id b => (trC P N b).map (.block id)
  | .loop b => (trC P N b).map .loop
  | .exit id => some (.exit id)
  | .ret => some .ret
  | _ => some .bad
def trRes (P : Program) : List ResultVar → Option (List RV)
  | [] => some []
  | .tmp t :: r => (trRes P r).map (.t t :: ·)
  | .cell a t :: r => match selT P t, trRes P r with
    | some n, some l => some (.ld n a :: l)
    | _, _ => none
def trF (P : Program) (f : Nat) : Option AFunc :=
  match P.funcs[f]? with
  | some fn =>
    if fn.name == "runtime.NumGoroutine" then none else
    match fn.body, trRes P fn.results.toList with
    | some c, some rs => (trC P fn.ntmps c).map fun b => ⟨fn.ntmps, rs, b⟩
    | _, _ => none
  | none => none

section
variable {P : Program}
theorem trOper_spec {ops : Array Oper} {N : Nat} {o : Oper} {ao : AOper} (h : trOper P ops N o = some ao) : TrOper P ops N o ao := by
  unfold trOper at h
  split at h
  · rename_i g hg
    split at h
    · rename_i hd
      cases h
      refine ⟨by cases trOpC P o.op with
        | none => exact .inr rfl
        | some x => exact .inl rfl, rfl, fun d hd' => ?_, ?_⟩
      · rw [hd'] at hd
        simp only [ltDst] at hd
        exact Nat.le_of_ble_eq_true hd
      · unfold trGuard at hg
        split at hg
        · rename_i hog
          cases hg
          rw [hog]
        · rename_i j b hog
          split at hg
          · rename_i t ht
            cases hg
            rw [hog]
            exact ⟨t, ht, rfl⟩
          · cases hg
    · cases h
  · cases h
theorem trOps_spec {ops : Array Oper} {N : Nat} : ∀ {os : List Oper} {l : List AOper}, trOps P ops N os = some l → l.length = os.length ∧ ∀ (j : Nat) (ao : AOper), l[j]? = some ao → ∃ o, os[j]? = some o ∧ TrOper P ops N o ao
  | [], l, h => by cases h; exact ⟨rfl, fun j ao hj => by simp at hj⟩
  | o :: os, l, h => by
    unfold trOps at h
    split at h
    · rename_i a l' ha hl
      cases h
      obtain ⟨h1, h2⟩ := trOps_spec hl
      refine ⟨by simp [h1], fun j ao hj => ?_⟩
      cases j with
      | zero => simp at hj; subst hj; exact ⟨o, rfl, trOper_spec ha⟩
      | succ j => exact h2 j ao (by simpa using hj)
    · cases h
theorem nodupB_spec : ∀ {l : List Nat}, nodupB l = true → l.Nodup
  | [], _ => List.nodup_nil
  | x :: l, h => by
    simp only [nodupB, Bool.and_eq_true, Bool.not_eq_true', List.contains_eq_mem, decide_eq_false_iff_not] at h
    exact List.nodup_cons.2 ⟨h.1, nodupB_spec h.2⟩
theorem pickL_spec {l0 : List AOper} : ∀ {sg : List Nat}, (pickL l0 sg).length = sg.length → ∀ (p : Nat) (ao : AOper) (i : Nat), (pickL l0 sg)[p]? = some ao → sg[p]? = some i → l0[i]? = some ao
  | [], _, p, ao, i, h, _ => by simp [pickL] at h
  | j :: r, hlen, p, ao, i, h, hi => by
    unfold pickL at hlen h
    cases hj : l0[j]? with
    | none =>
      simp only [hj, List.length_cons] at hlen
      have : ∀ (s : List Nat), (pickL l0 s).length ≤ s.length := by
        intro s
        induction s with
        | nil => simp [pickL]
        | cons a s ih =>
          unfold pickL
          split <;> simp <;> omega
      have := this r
      omega
    | some x =>
      simp only [hj, List.length_cons] at hlen h
      cases p with
      | zero => simp at h hi; subst h; subst hi; exact hj
      | succ p => exact pickL_spec (sg := r) (by omega) p ao i (by simpa using h) (by simpa using hi)
theorem mkD_spec (l : List AOper) (M sg : List Nat) : ∀ (r : Nat) (t : List AOper), (mkD l M sg r t).map (·.o) = t ∧ ∀ (k : Nat) (d : DOper), (mkD l M sg r t)[k]? = some d → d.re = reOf l M sg (r + k)
  | r, [] => ⟨rfl, fun k d h => by simp [mkD] at h⟩
  | r, x :: t => by
    obtain ⟨h1, h2⟩ := mkD_spec l M sg (r + 1) t
    refine ⟨by simp [mkD, h1], fun k d h => ?_⟩
    cases k with
    | zero => simp [mkD] at h; subst h; rfl
    | succ k =>
      simp only [mkD, List.getElem?_cons_succ] at h
      rw [h2 k d h]
      congr 1
      omega

def Out.exit' : Out → Exit
  | .normal => .normal
  | .exit id => .exit id
  | .ret => .ret

theorem trD_ok {call : CallT} (hc : CallOk P call) (hm : P.follows .mixedOrders = true) {w0 : World} {N : Nat} {ops : Array Oper} {Q : Exit → Act → World → Prop} {id : Nat} {D : List DOper} (h : trD P ops N = some D)
    {φ : Emb} {s s' : St} {a : Act} {w : World} (hS : SR φ w0 N s a w) (he : runOpsD call D s = some s')
    (hQ : ∀ φ' a' w', Step φ s.H φ' s'.H → SR φ' w0 N s' a' w' → Q .normal a' w') : (Code.region id ops true).wp P Q a w := by
  unfold trD at h
  split at h
  · rename_i l0 hl0
    simp only at h
    split at h
    · rename_i hb
      cases h
      obtain ⟨g1, g2⟩ := trOps_spec hl0
      generalize hsg : orderGo (ops.toList.map predsOf) (l0.map fun a => isEff a.op) ops.size (List.range ops.size) 0 = sg at *
      simp only [drawB, Bool.and_eq_true, List.all_eq_true, List.mem_range, Nat.beq_eq] at hb
      obtain ⟨⟨⟨⟨⟨b1, b2⟩, b3⟩, b4⟩, b5⟩, b6⟩ := hb
      obtain ⟨m1, m2⟩ := mkD_spec (pickL l0 sg) (masks (ops.toList.map predsOf) ops.size) sg 0 (pickL l0 sg)
      refine regionD_ok hc hm (sg := sg) (D := mkD (pickL l0 sg) (masks (ops.toList.map predsOf) ops.size) sg 0 (pickL l0 sg)) ?_ ?_ ?_ hS he hQ
      · rw [m1]
        refine ⟨b1, b2, fun i hi => by simpa using b3 i hi, nodupB_spec b4, ?_, fun p r hpr hr => b6 r hr p hpr⟩
        intro i o ho p hp
        have := b5 i (Array.getElem?_eq_some_iff.1 ho).1
        rw [ho] at this
        have := List.all_eq_true.1 this p hp
        exact Nat.le_of_ble_eq_true this
      · intro r d hd
        rw [m1]
        have := m2 r d hd
        rwa [Nat.zero_add] at this
      · intro p ao i hx hi
        rw [m1] at hx
        obtain ⟨o, ho, ht⟩ := g2 i ao (pickL_spec (by rw [b2, b1]) p ao i hx hi)
        exact ⟨o, by simpa using ho, ht⟩
    · cases h
  · cases h

theorem code_ok {call : CallT} (hc : CallOk P call) (hm : P.follows .mixedOrders = true) {w0 : World} {N : Nat} (n : Nat) :
    ∀ (c : Code) (ac : ACode) (Q : Exit → Act → World → Prop) (φ : Emb) (s s' : St) (o : Out) (a : Act) (w : World), trC P N c = some ac → SR φ w0 N s a w → runC call n ac s = some (o, s') →
      (∀ φ' a' w', Step φ s.H φ' s'.H → SR φ' w0 N s' a' w' → Q o.exit' a' w') → c.wp P Q a w := by
  intro c
  induction c with
  | skip =>
    intro ac Q φ s s' o a w h hS he hQ
    cases h
    simp only [runC] at he
    cases he
    exact wp_skip (hQ φ a w (Step.refl _ _) hS)
  | label l =>
    intro ac Q φ s s' o a w h hS he hQ
    cases h
    simp only [runC] at he
    cases he
    exact wp_label (hQ φ a w (Step.refl _ _) hS)
  | region id ops draw =>
    intro ac Q φ s s' o a w h hS he hQ
    simp only [trC] at h
    cases h
    split at he
    · rename_i hd
      subst hd
      cases hD : trD P ops N with
      | none => rw [hD] at he; simp [runC] at he
      | some D =>
      rw [hD] at he
      simp only [Option.map_some, Option.getD_some, runC, Option.map_eq_some_iff] at he
      obtain ⟨s1, h1, he⟩ := he
      cases he
      exact trD_ok hc hm hD hS h1 hQ
    · rename_i hd
      have hd : draw = false := by simpa using hd
      subst hd
      cases hl : trOps P ops N ops.toList with
      | none => rw [hl] at he; simp [runC] at he
      | some l =>
      rw [hl] at he
      simp only [Option.map_some, Option.getD_some, runC, Option.map_eq_some_iff] at he
      obtain ⟨s1, h1, he⟩ := he
      cases he
      obtain ⟨g1, g2⟩ := trOps_spec hl
      refine wp_region ?_
      have := region_ok hc (ops := ops) Q l 0 φ w s s' a (fun j ao hj => by
        obtain ⟨o, ho, ht⟩ := g2 j ao hj
        exact ⟨o, by simpa using ho, ht⟩) hS h1 hQ
      rw [g1, Array.length_toList, ← List.range_eq_range'] at this
      exact this
  | seq x y ihx ihy =>
    intro ac Q φ s s' o a w h hS he hQ
    simp only [trC] at h
    split at h
    · rename_i x' y' hx hy
      cases h
      simp only [runC] at he
      refine wp_seq ?_
      split at he
      · rename_i s1 hs1
        refine ihx x' _ φ s s1 .normal a w hx hS hs1 fun φ1 a1 w1 hle hS1 => ?_
        exact ihy y' Q φ1 s1 s' o a1 w1 hy hS1 he fun φ2 a2 w2 hle2 hS2 => hQ φ2 a2 w2 (Step.trans hle hle2) hS2
      · rename_i hn
        refine ihx x' _ φ s s' o a w hx hS he fun φ1 a1 w1 hle hS1 => ?_
        have := hQ φ1 a1 w1 hle hS1
        cases o with
        | normal => exact absurd he (hn s')
        | exit id => exact this
        | ret => exact this
    · cases h
  | cond c x y ihx ihy =>
    intro ac Q φ s s' o a w h hS he hQ
    simp only [trC] at h
    split at h
    · rename_i x' y' hx hy
      cases h
      cases hcx : trX c with
      | none => rw [hcx] at he; simp [runC] at he
      | some c' =>
      rw [hcx] at he
      simp only [runC] at he
      have hv := ev_VR hS.t hS.h hcx
      split at he
      · rename_i hb
        rw [hb] at hv
        exact wp_cond_true hv (ihx x' Q φ s s' o a w hx hS he hQ)
      · rename_i hb
        rw [hb] at hv
        exact wp_cond_false hv (ihy y' Q φ s s' o a w hy hS he hQ)
      · cases he
    · cases h
  | block id b ih =>
    intro ac Q φ s s' o a w h hS he hQ
    simp only [trC, Option.map_eq_some_iff] at h
    obtain ⟨b', hb, rfl⟩ := h
    simp only [runC] at he
    refine wp_block ?_
    split at he
    · rename_i i s1 hs1
      cases he
      refine ih b' _ φ s s' (.exit i) a w hb hS hs1 fun φ1 a1 w1 hle hS1 => ?_
      have := hQ φ1 a1 w1 hle hS1
      simp only [Out.exit', Exit.inBlock]
      by_cases hi : i = id
      · rw [if_pos hi] at this ⊢
        exact this
      · rw [if_neg hi] at this ⊢
        exact this
    · rename_i hn
      refine ih b' _ φ s s' o a w hb hS he fun φ1 a1 w1 hle hS1 => ?_
      have := hQ φ1 a1 w1 hle hS1
      cases o with
      | normal => exact this
      | exit i => exact absurd he (hn i s')
      | ret => exact this
  | loop b ih =>
    intro ac Q φ s s' o a w h hS he hQ
    simp only [trC, Option.map_eq_some_iff] at h
    obtain ⟨b', hb, rfl⟩ := h
    simp only [runC] at he
    have key : ∀ (k : Nat) (φ1 : Emb) (s1 : St) (a1 : Act) (w1 : World), Step φ s.H φ1 s1.H → SR φ1 w0 N s1 a1 w1 → loopN (runC call n b') k s1 = some (o, s') → Code.rounds P b Q k a1 w1 := by
      intro k
      induction k with
      | zero => intro φ1 s1 a1 w1 _ _ hl; simp [loopN] at hl
      | succ k ihk =>
        intro φ1 s1 a1 w1 hle hS1 hl
        rw [rounds_succ]
        simp only [loopN] at hl
        split at hl
        · rename_i s2 hs2
          exact ih b' _ φ1 s1 s2 .normal a1 w1 hb hS1 hs2 fun φ2 a2 w2 hle2 hS2 => ihk φ2 s2 a2 w2 (Step.trans hle hle2) hS2 hl
        · rename_i hn
          refine ih b' _ φ1 s1 s' o a1 w1 hb hS1 hl fun φ2 a2 w2 hle2 hS2 => ?_
          have := hQ φ2 a2 w2 (Step.trans hle hle2) hS2
          cases o with
          | normal => exact absurd hl (hn s')
          | exit id => exact this
          | ret => exact this
    exact wp_loop_rounds n (key n φ s a w (Step.refl _ _) hS he)
  | exit id =>
    intro ac Q φ s s' o a w h hS he hQ
    cases h
    simp only [runC] at he
    cases he
    exact wp_exit (hQ φ a w (Step.refl _ _) hS)
  | ret =>
    intro ac Q φ s s' o a w h hS he hQ
    cases h
    simp only [runC] at he
    cases he
    exact wp_ret (hQ φ a w (Step.refl _ _) hS)
  | _ =>
    intro ac Q φ s s' o a w h hS he
    cases h
    simp [runC] at he

theorem runC_next {call : CallT} (hc : ∀ f args H v H', call f args H = some (v, H') → H.next ≤ H'.next) (n : Nat) : ∀ (c : ACode) (s s' : St) (o : Out), runC call n c s = some (o, s') → s.H.next ≤ s'.H.next := by
  have one : ∀ (x : AOper) (s s' : St), runOp call x s = some s' → s.H.next ≤ s'.H.next := by
    intro x s s' h
    obtain ⟨v, H', h1, h2⟩ := runOp_parts h
    rw [h1, St.put_H]
    rcases h2 with ⟨_, hop⟩ | ⟨_, _, h⟩
    · exact opC_next hc hop
    · simp only [h]; exact Nat.le_refl _
  intro c
  induction c with
  | skip => intro s s' o h; simp only [runC] at h; cases h; exact Nat.le_refl _
  | exit id => intro s s' o h; simp only [runC] at h; cases h; exact Nat.le_refl _
  | ret => intro s s' o h; simp only [runC] at h; cases h; exact Nat.le_refl _
  | bad => intro s s' o h; simp [runC] at h
  | region l =>
    intro s s' o h
    simp only [runC, Option.map_eq_some_iff] at h
    obtain ⟨s1, h, he⟩ := h
    cases he
    induction l generalizing s with
    | nil => simp only [runOps] at h; cases h; exact Nat.le_refl _
    | cons x l ih =>
      simp only [runOps] at h
      split at h
      · rename_i s2 hs2
        exact Nat.le_trans (one x s s2 hs2) (ih s2 h)
      · cases h
  | regionD l =>
    intro s s' o h
    simp only [runC, Option.map_eq_some_iff] at h
    obtain ⟨s1, h, he⟩ := h
    cases he
    induction l generalizing s with
    | nil => simp only [runOpsD] at h; cases h; exact Nat.le_refl _
    | cons x l ih =>
      simp only [runOpsD] at h
      split at h
      · rename_i s2 hs2
        split at h
        · exact Nat.le_trans (one x.o s s2 hs2) (ih s2 h)
        · cases h
      · cases h
  | seq a b iha ihb =>
    intro s s' o h
    simp only [runC] at h
    split at h
    · rename_i s1 hs1
      exact Nat.le_trans (iha s s1 _ hs1) (ihb s1 s' o h)
    · exact iha s s' o h
  | cond c a b iha ihb =>
    intro s s' o h
    simp only [runC] at h
    split at h
    · exact iha s s' o h
    · exact ihb s s' o h
    · cases h
  | block id b ih =>
    intro s s' o h
    simp only [runC] at h
    split at h
    · rename_i i s1 hs1
      cases h
      exact ih s _ _ hs1
    · exact ih s s' o h
  | loop b ih =>
    intro s s' o h
    simp only [runC] at h
    have key : ∀ (k : Nat) (s : St), loopN (runC call n b) k s = some (o, s') → s.H.next ≤ s'.H.next := by
      intro k
      induction k with
      | zero => intro s h; simp [loopN] at h
      | succ k ihk =>
        intro s h
        simp only [loopN] at h
        split at h
        · rename_i s1 hs1
          exact Nat.le_trans (ih s s1 _ hs1) (ihk s1 h)
        · exact ih s s' o h
    exact key n s h

def resStep (tmps : Array Value) : ResultVar → Sem Value
  | .tmp t => pure (tmps.getD t undef)
  | .cell a t => do loadVar t (← asAddr (tmps.getD a undef))
theorem results_eq (fn : Func) (tmps : Array Value) : Go.results fn tmps = (do
    let vs ← fn.results.mapM (resStep tmps)
    pure (if h : vs.size = 1 then vs[0] else .tuple vs)) := by
  unfold Go.results
  congr 2
theorem loadOp_run {φ : Emb} {w0 w : World} {H : AHeap} (hR : Rel φ w0 H w) {t : TypeId} {n : Option Nat} (hn : selT P t = some n) {a v : AV} {a' : Value} (ha : VR φ a a') (he : loadOp H a n = some v) :
    ∃ v', (do loadVar t (← asAddr a') : Sem Value).run P w = .ok v' w ∧ VR φ v v' := by
  obtain ⟨h1, h2⟩ := selT_run hn w
  cases n with
  | none =>
    simp only [loadOp] at he
    split at he
    · obtain ⟨l, hl, hb⟩ := ha
      split at he
      · rename_i p u hload
        cases he
        obtain ⟨vs, hlen, hv, _, hc⟩ := hR.run_load hl hload P ⟨l.blk, l.off + _, none⟩ (fun _ => rfl)
        obtain ⟨y, rfl, hy⟩ := VRs.one_iff.1 hv
        have hcell := hc 0 y rfl
        rw [addr_add, Nat.add_zero] at hcell
        exact ⟨y, by simp [hb, asAddr, loadVar, h1, hcell], hy⟩
      · cases he
    · cases he
  | some n =>
    simp only [loadOp] at he
    split at he
    · obtain ⟨l, hl, hb⟩ := ha
      simp only [Option.map_eq_some_iff] at he
      obtain ⟨cs, hload, he⟩ := he
      cases he
      obtain ⟨vs, hlen, hv, hrun, _⟩ := hR.run_load hl hload P ⟨l.blk, l.off + _, none⟩ (fun _ => rfl)
      refine ⟨.agg vs.toArray, ?_, ⟨_, rfl, by simpa using hv⟩⟩
      simp [hb, asAddr, loadVar, h1, h2 n rfl, hrun]
    · cases he
theorem trRes_run {φ : Emb} {w0 w : World} {H : AHeap} (hR : Rel φ w0 H w) {T : Trie AV} {tmps : Array Value} (hT : TR φ T tmps) : ∀ {l : List ResultVar} {rs : List RV} {as : List AV}, trRes P l = some rs → results T H rs = some as →
    ∃ vs : List Value, (l.mapM (resStep tmps)).run P w = .ok vs w ∧ VRs φ as vs
  | [], rs, as, h, he => by cases h; cases he; exact ⟨[], by simp, VRs.nil⟩
  | .tmp t :: r, rs, as, h, he => by
    simp only [trRes, Option.map_eq_some_iff] at h
    obtain ⟨rs', h1, rfl⟩ := h
    simp only [results, result1] at he
    split at he
    · rename_i v vs hv hvs
      cases he
      cases hv
      obtain ⟨us, h2, h3⟩ := trRes_run hR hT h1 hvs
      exact ⟨tmps.getD t undef :: us, by simp [List.mapM_cons, resStep, h2], VRs.cons (hT t) h3⟩
    · cases he
  | .cell a t :: r, rs, as, h, he => by
    simp only [trRes] at h
    split at h
    · rename_i n rs' hn h1
      cases h
      simp only [results, result1] at he
      split at he
      · rename_i v vs hv hvs
        cases he
        obtain ⟨us, h2, h3⟩ := trRes_run hR hT h1 hvs
        obtain ⟨v', h4, h5⟩ := loadOp_run (P := P) hR hn (hT a) hv
        refine ⟨v' :: us, ?_, VRs.cons h5 h3⟩
        have h6 : (resStep tmps (.cell a t)).run P w = .ok v' w := h4
        simp only [List.mapM_cons, Sem.run_bind, h6, Result.andThen_ok, h2, Sem.run_pure]
      · cases he
    · cases h

theorem results_ok {φ : Emb} {w0 w : World} {H : AHeap} (hR : Rel φ w0 H w) {T : Trie AV} {tmps : Array Value} (hT : TR φ T tmps) {fn : Func} {rs : List RV} (h : trRes P fn.results.toList = some rs) {v : AV} (he : result T H rs = some v) :
    ∃ v', (Go.results fn tmps).run P w = .ok v' w ∧ VR φ v v' := by
  unfold result at he
  cases has : results T H rs with
  | none => rw [has] at he; cases he
  | some as =>
    rw [has] at he
    obtain ⟨vs, h1, h2⟩ := trRes_run (P := P) hR hT h has
    have hm : (fn.results.mapM (resStep tmps)).run P w = .ok vs.toArray w := by
      rw [Array.mapM_eq_mapM_toList]
      simp only [Sem.run_map, h1, Result.andThen_ok]
    refine ⟨if hh : vs.toArray.size = 1 then vs.toArray[0] else .tuple vs.toArray, ?_, ?_⟩
    · simp only [results_eq, Sem.run_bind, hm, Result.andThen_ok, Sem.run_pure]
    · cases as with
      | nil =>
        cases he
        have : vs = [] := h2
        subst this
        exact ⟨_, rfl, VRs.nil⟩
      | cons t as =>
        cases as with
        | nil =>
          cases he
          obtain ⟨v, rfl, hv⟩ := VRs.one_iff.1 h2
          simpa using hv
        | cons u as =>
          cases he
          have h1 : ¬ vs.toArray.size = 1 := by
            have hlen := h2.length
            simp only [List.size_toArray, ← hlen, List.length_cons]
            omega
          rw [dif_neg h1]
          exact ⟨_, rfl, by simpa using h2⟩

theorem TR_init {φ : Emb} : ∀ {args : List AV} {vs : List Value} (k : Nat) (T : Trie AV) (pre : List Value) (m : Nat), pre.length = k → (∀ t, VR φ (St.get T t) (pre.getD t undef)) → VRs φ args vs →
    ∀ t, VR φ (St.get (putArgs args k T) t) ((pre ++ vs ++ List.replicate m undef).getD t undef)
  | [], vs, k, T, pre, m, hk, hT, hv, t => by
    have : vs = [] := hv
    subst this
    simp only [putArgs, List.append_nil]
    have e : (pre ++ List.replicate m undef).getD t undef = pre.getD t undef := by
      simp only [List.getD_eq_getElem?_getD, List.getElem?_append]
      split
      · rfl
      · rename_i h
        rw [List.getElem?_eq_none (by omega : pre.length ≤ t)]
        rw [List.getElem?_replicate]
        split <;> rfl
    rw [e]
    exact hT t
  | a :: as, vs, k, T, pre, m, hk, hT, hv, t => by
    obtain ⟨v, vs', rfl, h1, h2⟩ := hv
    have := TR_init (k + 1) (T.put k (some a)) (pre ++ [v]) m (by simp [hk]) (fun t => by
      rw [get_put_if]
      simp only [List.getD_eq_getElem?_getD, List.getElem?_append]
      by_cases e : t = k
      · subst e
        rw [if_pos rfl, if_neg (by omega)]
        simp [hk]
        exact h1
      · rw [if_neg e]
        by_cases h : t < pre.length
        · rw [if_pos h]
          have := hT t
          rwa [List.getD_eq_getElem?_getD] at this
        · rw [if_neg h]
          have := hT t
          rw [List.getD_eq_getElem?_getD, List.getElem?_eq_none (by omega)] at this
          rw [List.getElem?_eq_none (by simp; omega)]
          exact this) h2 t
    simpa [putArgs] using this

/-- What is told from outside is so. -/
def ExtOk (P : Program) (E : Env) : Prop :=
  ∀ f g, E.ext f = some g → ∀ args H v H', g args H = some (v, H') → Callable P f ∧ H.next ≤ H'.next ∧ ∀ (φ : Emb) (w0 w : World) (args' : Array Value), Rel φ w0 H w → VRs φ args args'.toList →
    Calls P f args' w fun e w' => ∃ v' φ', e = .returned v' ∧ Step φ H φ' H' ∧ VR φ' v v' ∧ Rel φ' w0 H' w'

theorem callN_ok (E : Env) (hft : ∀ f fn, E.ft f = some fn → trF P f = some fn) (hext : ExtOk P E) (hm : P.follows .mixedOrders = true) : ∀ n, CallOk P (callN E n)
  | 0 => fun f args H v H' h => by simp [callN] at h
  | n + 1 => by
    have ih := callN_ok E hft hext hm n
    intro f args H v H' h
    simp only [callN] at h
    split at h
    · rename_i g hg
      exact hext f g hg args H v H' h
    · split at h
      · cases h
      · rename_i fn hfn
        have htr := hft f fn hfn
        unfold trF at htr
        split at htr
        · rename_i fd hfd
          split at htr
          · cases htr
          · rename_i hname
            split at htr
            · rename_i c rs hbody hrs
              simp only [Option.map_eq_some_iff] at htr
              obtain ⟨b, hb, rfl⟩ := htr
              have hnext : H.next ≤ H'.next := by
                have hcn : ∀ f args H v H', callN E n f args H = some (v, H') → H.next ≤ H'.next := fun f args H v H' h => (ih f args H v H' h).2.1
                split at h
                · rename_i s hrun
                  simp only [Option.map_eq_some_iff, Prod.mk.injEq] at h
                  obtain ⟨_, _, _, rfl⟩ := h
                  exact runC_next hcn n _ _ _ _ hrun
                · rename_i s hrun
                  simp only [Option.map_eq_some_iff, Prod.mk.injEq] at h
                  obtain ⟨_, _, _, rfl⟩ := h
                  exact runC_next hcn n _ _ _ _ hrun
                · cases h
              refine ⟨⟨fd, hfd, by simpa using hname, by simp [hbody]⟩, hnext, ?_⟩
              intro φ w0 w args' hR hargs
              refine calls_of_wp hfd hbody ?_
              have hS : SR φ w0 fd.ntmps ⟨putArgs args 0 .leaf, H⟩ { tmps := args' ++ Array.replicate (fd.ntmps - args'.size) undef, defers := [] } w := by
                refine ⟨?_, hR, ?_, rfl⟩
                · intro t
                  have := TR_init (φ := φ) 0 (.leaf : Trie AV) [] (fd.ntmps - args'.size) rfl (fun t => by
                    simp only [St.get, Trie.get, Option.getD_none, List.getD_nil]
                    exact ⟨_, rfl, VRs.nil⟩) hargs t
                  simp only [List.nil_append] at this
                  have e : (args' ++ Array.replicate (fd.ntmps - args'.size) undef).getD t undef = (args'.toList ++ List.replicate (fd.ntmps - args'.size) undef).getD t undef := by
                    rw [Array.getD_eq_getD_getElem?, List.getD_eq_getElem?_getD, ← Array.getElem?_toList, Array.toList_append, Array.toList_replicate]
                  rw [e]
                  exact this
                · simp
                  omega
              have fin : ∀ (o : Out) (s : St), runC (callN E n) n b ⟨putArgs args 0 .leaf, H⟩ = some (o, s) → (o = .normal ∨ o = .ret) → (result s.T s.H rs).map (fun v => (v, s.H)) = some (v, H') →
                  c.wp P (bodyPost P fd fun e w' => ∃ v' φ', e = .returned v' ∧ Step φ H φ' H' ∧ VR φ' v v' ∧ Rel φ' w0 H' w') { tmps := args' ++ Array.replicate (fd.ntmps - args'.size) undef, defers := [] } w := by
                intro o s hrun ho hvH
                simp only [Option.map_eq_some_iff, Prod.mk.injEq] at hvH
                obtain ⟨v1, hv1, rfl, rfl⟩ := hvH
                refine code_ok ih hm n c b _ φ _ s o _ w hb hS hrun fun φ' a' w' hle hS' => ?_
                obtain ⟨rv, hr1, hr2⟩ := results_ok (P := P) hS'.h hS'.t hrs hv1
                rcases ho with rfl | rfl
                · exact ⟨hS'.defers, rv, hr1, rv, φ', rfl, hle, hr2, hS'.h⟩
                · exact ⟨hS'.defers, rv, hr1, rv, φ', rfl, hle, hr2, hS'.h⟩
              split at h
              · rename_i s hrun
                exact fin .normal s hrun (.inl rfl) h
              · rename_i s hrun
                exact fin .ret s hrun (.inr rfl) h
              · cases h
            · cases htr
        · cases htr
end
end Go.AI
