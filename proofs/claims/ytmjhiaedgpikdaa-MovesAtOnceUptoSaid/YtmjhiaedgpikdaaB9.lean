/- THE DATA MACHINE, 9: runs without a count of steps; rules by which they are told. Own work. -/
import Derived.Test.YtmjhiaedgpikdaaB8
set_option linter.unusedSimpArgs false
set_option linter.unusedVariables false
namespace Go.AI

/-! ### more steps -/
def Mono (c d : DCall) : Prop := ∀ fl f args L r, c fl f args L = some r → d fl f args L = some r
section
variable {E : DEnv} {c d : DCall}
theorem callM_mono (h : Mono c d) {fl : Nat} {g : FuncId} {args : List AV} {L : DHeap} {r : AV × DHeap} (hr : callM E c fl g args L = some r) : callM E d fl g args L = some r := by
  unfold callM at hr
  unfold callM
  split at hr
  · rename_i hm
    try simp only [hm]
    split at hr
    · rename_i a b hs
      try rw [hs]
      try simp only
      split at hr
      · rename_i v L1 h1
        rw [h _ _ _ _ _ h1]
        exact hr
      · cases hr
    · cases hr
  · rename_i hm
    try simp only [hm]
    split at hr
    · rename_i v L1 h1
      rw [h _ _ _ _ _ h1]
      exact hr
    · cases hr
  · rename_i hm
    try simp only [hm]
    exact h _ _ _ _ _ hr
theorem opDC_mono (h : Mono c d) {fl : Nat} {o : AOp} {T : Trie AV} {L : DHeap} {r : AV × DHeap} (hr : opDC E c fl o T L = some r) : opDC E d fl o T L = some r := by
  cases o with
  | call f args =>
    simp only [opDC] at hr
    simp only [opDC]
    split at hr
    · rename_i g a b hf
      try rw [hf]
      exact callM_mono h hr
    · cases hr
  | _ => exact hr
theorem runOpD_mono (h : Mono c d) {fl : Nat} {o : AOper} {s s' : DSt} (hr : runOpD E c fl o s = some s') : runOpD E d fl o s = some s' := by
  unfold runOpD at hr ⊢
  split at hr
  · split at hr
    · rename_i v L' h1
      rw [opDC_mono h h1]
      exact hr
    · cases hr
  · exact hr
  · cases hr
theorem runOpsL_mono (h : Mono c d) {fl : Nat} : ∀ {ops : List AOper} {s s' : DSt}, runOpsL E c fl ops s = some s' → runOpsL E d fl ops s = some s'
  | [], s, s', hr => hr
  | o :: l, s, s', hr => by
    simp only [runOpsL] at hr ⊢
    split at hr
    · rename_i s1 h1
      rw [runOpD_mono h h1]
      exact runOpsL_mono h hr
    · cases hr
theorem runOpsLD_mono (h : Mono c d) {fl : Nat} : ∀ {ops : List DOper} {s s' : DSt}, runOpsLD E c fl ops s = some s' → runOpsLD E d fl ops s = some s'
  | [], s, s', hr => hr
  | o :: l, s, s', hr => by
    simp only [runOpsLD] at hr ⊢
    split at hr
    · rename_i s1 h1
      rw [runOpD_mono h h1]
      simp only
      split at hr
      · rename_i h2
        rw [if_pos h2]
        exact runOpsLD_mono h hr
      · cases hr
    · cases hr
theorem loopD_mono {f g : DSt → Option (Out × DSt)} (h : ∀ s r, f s = some r → g s = some r) : ∀ {n m : Nat} {s : DSt} {r : Out × DSt}, n ≤ m → loopD f n s = some r → loopD g m s = some r
  | 0, m, s, r, _, hr => by cases hr
  | n + 1, 0, s, r, hm, _ => by omega
  | n + 1, m + 1, s, r, hm, hr => by
    simp only [loopD] at hr ⊢
    split at hr
    · rename_i s1 h1
      rw [h _ _ h1]
      exact loopD_mono h (by omega) hr
    · rename_i hn
      rw [h _ _ hr]
      obtain ⟨o, s'⟩ := r
      cases o with
      | normal => exact absurd hr (hn s')
      | exit _ => rfl
      | ret => rfl
theorem runCD_mono (h : Mono c d) {fl n m : Nat} (hm : n ≤ m) : ∀ {a : ACode} {s : DSt} {r : Out × DSt}, runCD E c fl n a s = some r → runCD E d fl m a s = some r := by
  intro a
  induction a with
  | skip => intro s r hr; exact hr
  | exit id => intro s r hr; exact hr
  | ret => intro s r hr; exact hr
  | bad => intro s r hr; exact hr
  | region ops =>
    intro s r hr
    simp only [runCD, Option.map_eq_some_iff] at hr ⊢
    obtain ⟨s1, h1, e⟩ := hr
    exact ⟨s1, runOpsL_mono h h1, e⟩
  | regionD ops =>
    intro s r hr
    simp only [runCD, Option.map_eq_some_iff] at hr ⊢
    obtain ⟨s1, h1, e⟩ := hr
    exact ⟨s1, runOpsLD_mono h h1, e⟩
  | seq x y ihx ihy =>
    intro s r hr
    simp only [runCD] at hr ⊢
    split at hr
    · rename_i s1 h1
      rw [ihx h1]
      exact ihy hr
    · rename_i hn
      rw [ihx hr]
      obtain ⟨o, s'⟩ := r
      cases o with
      | normal => exact absurd hr (hn s')
      | exit _ => rfl
      | ret => rfl
  | cond z x y ihx ihy =>
    intro s r hr
    simp only [runCD] at hr ⊢
    split at hr
    · exact ihx hr
    · exact ihy hr
    · cases hr
  | block id b ih =>
    intro s r hr
    simp only [runCD] at hr ⊢
    split at hr
    · rename_i i s1 h1
      rw [ih h1]
      exact hr
    · rename_i hn
      rw [ih hr]
      obtain ⟨o, s'⟩ := r
      cases o with
      | normal => rfl
      | exit i => exact absurd hr (hn i s')
      | ret => rfl
  | loop b ih =>
    intro s r hr
    simp only [runCD] at hr ⊢
    exact loopD_mono (fun s r hr => ih hr) hm hr
end
theorem callD_mono1 (E : DEnv) : ∀ n, Mono (callD E n) (callD E (n + 1)) := by
  intro n
  induction n with
  | zero => intro fl f args L r hr; cases hr
  | succ n ih =>
    intro fl f args L r hr
    rw [callD] at hr ⊢
    split at hr
    · exact hr
    split at hr
    · cases hr
    · rename_i fn hfn
      split at hr
      · rename_i s h1; rw [runCD_mono ih (Nat.le_succ n) h1]; exact hr
      · rename_i s h1; rw [runCD_mono ih (Nat.le_succ n) h1]; exact hr
      · cases hr
theorem callD_mono (E : DEnv) {n m : Nat} (h : n ≤ m) : Mono (callD E n) (callD E m) := by
  induction h with
  | refl => exact fun _ _ _ _ _ h => h
  | step _ ih => exact fun fl f args L r hr => callD_mono1 E _ _ _ _ _ _ (ih _ _ _ _ _ hr)

/-! ### what a call comes to -/
open Classical in
noncomputable def cd (E : DEnv) : DCall := fun fl f args L => if h : ∃ r n, callD E n fl f args L = some r then some (Classical.choose h) else none
theorem cd_of {E : DEnv} {n fl : Nat} {f : FuncId} {args : List AV} {L : DHeap} {r : AV × DHeap} (h : callD E n fl f args L = some r) : cd E fl f args L = some r := by
  have hx : ∃ r n, callD E n fl f args L = some r := ⟨r, n, h⟩
  unfold cd
  rw [dif_pos hx]
  obtain ⟨m, hm⟩ := Classical.choose_spec hx
  have h1 := callD_mono E (Nat.le_max_left n m) _ _ _ _ _ h
  have h2 := callD_mono E (Nat.le_max_right n m) _ _ _ _ _ hm
  rw [h1] at h2
  injection h2 with h2
  rw [h2]
theorem cd_ex {E : DEnv} {fl : Nat} {f : FuncId} {args : List AV} {L : DHeap} {r : AV × DHeap} (h : cd E fl f args L = some r) : ∃ n, callD E n fl f args L = some r := by
  unfold cd at h
  split at h
  · rename_i hx
    injection h with h
    rw [← h]
    exact Classical.choose_spec hx
  · cases h

/-! ### a run makes but some calls -/
section
variable {E : DEnv}
theorem callM_fin {fl : Nat} {g : FuncId} {args : List AV} {L : DHeap} {r : AV × DHeap} (h : callM E (cd E) fl g args L = some r) : ∃ n, callM E (callD E n) fl g args L = some r := by
  unfold callM at h
  split at h
  · rename_i hm
    split at h
    · rename_i a b hs
      split at h
      · rename_i v L1 h1
        obtain ⟨n, hn⟩ := cd_ex h1
        refine ⟨n, ?_⟩
        unfold callM
        simp only [hm, hs, hn]
        exact h
      · cases h
    · cases h
  · rename_i hm
    split at h
    · rename_i v L1 h1
      obtain ⟨n, hn⟩ := cd_ex h1
      refine ⟨n, ?_⟩
      unfold callM
      simp only [hm, hn]
      exact h
    · cases h
  · rename_i hm
    obtain ⟨n, hn⟩ := cd_ex h
    refine ⟨n, ?_⟩
    unfold callM
    simp only [hm, hn]
theorem runOpD_fin {fl : Nat} {o : AOper} {s s' : DSt} (h : runOpD E (cd E) fl o s = some s') : ∃ n, runOpD E (callD E n) fl o s = some s' := by
  unfold runOpD at h
  split at h
  · rename_i hw
    split at h
    · rename_i v L' h1
      have : ∃ n, opDC E (callD E n) fl o.op s.T s.L = some (v, L') := by
        cases hop : o.op with
        | call f args =>
          rw [hop] at h1
          simp only [opDC] at h1
          simp only [opDC]
          split at h1
          · rename_i g a b hf
            try rw [hf]
            exact callM_fin h1
          · cases h1
        | _ => rw [hop] at h1; exact ⟨0, h1⟩
      obtain ⟨n, hn⟩ := this
      exact ⟨n, by unfold runOpD; simp only [hw, hn]; exact h⟩
    · cases h
  · rename_i hw
    exact ⟨0, by unfold runOpD; simp only [hw]; exact h⟩
  · cases h
theorem runOpsL_fin {fl : Nat} : ∀ {ops : List AOper} {s s' : DSt}, runOpsL E (cd E) fl ops s = some s' → ∃ n, runOpsL E (callD E n) fl ops s = some s'
  | [], s, s', h => ⟨0, h⟩
  | o :: l, s, s', h => by
    simp only [runOpsL] at h
    split at h
    · rename_i s1 h1
      obtain ⟨n, hn⟩ := runOpD_fin h1
      obtain ⟨m, hm⟩ := runOpsL_fin h
      refine ⟨max n m, ?_⟩
      simp only [runOpsL]
      rw [runOpD_mono (callD_mono E (Nat.le_max_left n m)) hn]
      exact runOpsL_mono (callD_mono E (Nat.le_max_right n m)) hm
    · cases h
theorem runOpsLD_fin {fl : Nat} : ∀ {ops : List DOper} {s s' : DSt}, runOpsLD E (cd E) fl ops s = some s' → ∃ n, runOpsLD E (callD E n) fl ops s = some s'
  | [], s, s', h => ⟨0, h⟩
  | o :: l, s, s', h => by
    simp only [runOpsLD] at h
    split at h
    · rename_i s1 h1
      split at h
      · rename_i h2
        obtain ⟨n, hn⟩ := runOpD_fin h1
        obtain ⟨m, hm⟩ := runOpsLD_fin h
        refine ⟨max n m, ?_⟩
        simp only [runOpsLD]
        rw [runOpD_mono (callD_mono E (Nat.le_max_left n m)) hn]
        simp only
        rw [if_pos h2]
        exact runOpsLD_mono (callD_mono E (Nat.le_max_right n m)) hm
      · cases h
    · cases h
theorem loopD_fin {f : DSt → Option (Out × DSt)} {g : Nat → DSt → Option (Out × DSt)} (hf : ∀ s r, f s = some r → ∃ n, ∀ m, n ≤ m → g m s = some r) : ∀ {k : Nat} {s : DSt} {r : Out × DSt}, loopD f k s = some r → ∃ n, ∀ m, n ≤ m → loopD (g m) k s = some r
  | 0, s, r, h => by cases h
  | k + 1, s, r, h => by
    simp only [loopD] at h
    split at h
    · rename_i s1 h1
      obtain ⟨n, hn⟩ := hf _ _ h1
      obtain ⟨p, hp⟩ := loopD_fin hf h
      refine ⟨max n p, fun m hm => ?_⟩
      simp only [loopD]
      rw [hn m (by omega)]
      exact hp m (by omega)
    · rename_i hnn
      obtain ⟨n, hn⟩ := hf _ _ h
      refine ⟨n, fun m hm => ?_⟩
      simp only [loopD]
      rw [hn m hm]
      obtain ⟨o, s'⟩ := r
      cases o with
      | normal => exact absurd h (hnn s')
      | exit _ => rfl
      | ret => rfl
theorem runCD_fin {fl k : Nat} : ∀ {a : ACode} {s : DSt} {r : Out × DSt}, runCD E (cd E) fl k a s = some r → ∃ n, ∀ m, n ≤ m → runCD E (callD E m) fl k a s = some r := by
  intro a
  induction a with
  | skip => intro s r h; exact ⟨0, fun _ _ => h⟩
  | exit id => intro s r h; exact ⟨0, fun _ _ => h⟩
  | ret => intro s r h; exact ⟨0, fun _ _ => h⟩
  | bad => intro s r h; cases h
  | region ops =>
    intro s r h
    simp only [runCD, Option.map_eq_some_iff] at h ⊢
    obtain ⟨s1, h1, e⟩ := h
    obtain ⟨n, hn⟩ := runOpsL_fin h1
    exact ⟨n, fun m hm => ⟨s1, runOpsL_mono (callD_mono E hm) hn, e⟩⟩
  | regionD ops =>
    intro s r h
    simp only [runCD, Option.map_eq_some_iff] at h ⊢
    obtain ⟨s1, h1, e⟩ := h
    obtain ⟨n, hn⟩ := runOpsLD_fin h1
    exact ⟨n, fun m hm => ⟨s1, runOpsLD_mono (callD_mono E hm) hn, e⟩⟩
  | seq x y ihx ihy =>
    intro s r h
    simp only [runCD] at h ⊢
    split at h
    · rename_i s1 h1
      obtain ⟨n, hn⟩ := ihx h1
      obtain ⟨p, hp⟩ := ihy h
      exact ⟨max n p, fun m hm => by rw [hn m (by omega)]; exact hp m (by omega)⟩
    · rename_i hnn
      obtain ⟨n, hn⟩ := ihx h
      refine ⟨n, fun m hm => ?_⟩
      rw [hn m hm]
      obtain ⟨o, s'⟩ := r
      cases o with
      | normal => exact absurd h (hnn s')
      | exit _ => rfl
      | ret => rfl
  | cond z x y ihx ihy =>
    intro s r h
    simp only [runCD] at h ⊢
    split at h
    · exact ihx h
    · exact ihy h
    · cases h
  | block id b ih =>
    intro s r h
    simp only [runCD] at h ⊢
    split at h
    · rename_i i s1 h1
      obtain ⟨n, hn⟩ := ih h1
      exact ⟨n, fun m hm => by rw [hn m hm]; exact h⟩
    · rename_i hnn
      obtain ⟨n, hn⟩ := ih h
      refine ⟨n, fun m hm => ?_⟩
      rw [hn m hm]
      obtain ⟨o, s'⟩ := r
      cases o with
      | normal => rfl
      | exit i => exact absurd h (hnn i s')
      | ret => rfl
  | loop b ih =>
    intro s r h
    simp only [runCD] at h ⊢
    exact loopD_fin (g := fun m => runCD E (callD E m) fl k b) (fun s r hr => ih hr) h
end

/-! ### runs, by what holds behind them -/
section
variable {E : DEnv} {fl : Nat}
def ROd (E : DEnv) (fl : Nat) (ops : List AOper) (s : DSt) (K : DSt → Prop) : Prop := bindP (runOpsL E (cd E) fl ops s) K
def RODd (E : DEnv) (fl : Nat) (ops : List DOper) (s : DSt) (K : DSt → Prop) : Prop := bindP (runOpsLD E (cd E) fl ops s) K
def RD (E : DEnv) (fl : Nat) (c : ACode) (s : DSt) (Q : Out → DSt → Prop) : Prop := ∃ n, bindP (runCD E (cd E) fl n c s) (fun p => Q p.1 p.2)
theorem monoRefl : Mono (cd E) (cd E) := fun _ _ _ _ _ h => h
theorem ROd_nil (s : DSt) (K : DSt → Prop) : ROd E fl [] s K = K s := rfl
theorem ROd_cons (o : AOper) (r : List AOper) (T : Trie AV) (L : DHeap) (K : DSt → Prop) : ROd E fl (o :: r) ⟨T, L⟩ K = bindP (runOpD E (cd E) fl o ⟨T, L⟩) (fun s' => ROd E fl r s' K) := by
  unfold ROd
  simp only [runOpsL]
  cases runOpD E (cd E) fl o ⟨T, L⟩ <;> rfl
theorem RODd_nil (s : DSt) (K : DSt → Prop) : RODd E fl [] s K = K s := rfl
theorem RODd_cons (o : AOper) (re : List AOper) (r : List DOper) (T : Trie AV) (L : DHeap) (K : DSt → Prop) : RODd E fl (⟨o, re⟩ :: r) ⟨T, L⟩ K = bindP (runOpD E (cd E) fl o ⟨T, L⟩) (fun s' => re.all (readsD E fl s') = true ∧ RODd E fl r s' K) := by
  unfold RODd
  simp only [runOpsLD]
  cases runOpD E (cd E) fl o ⟨T, L⟩ with
  | none => rfl
  | some s' =>
    simp only [bindP_some]
    cases hb : re.all (readsD E fl s') <;> simp [bindP]
theorem RODd_cons0 (o : AOper) (r : List DOper) (T : Trie AV) (L : DHeap) (K : DSt → Prop) : RODd E fl (⟨o, []⟩ :: r) ⟨T, L⟩ K = bindP (runOpD E (cd E) fl o ⟨T, L⟩) (fun s' => RODd E fl r s' K) := by
  rw [RODd_cons]
  simp
theorem RD_skip (s : DSt) (Q : Out → DSt → Prop) : RD E fl .skip s Q = Q .normal s := propext ⟨fun ⟨_, h⟩ => h, fun h => ⟨0, h⟩⟩
theorem RD_exit (id : Nat) (s : DSt) (Q : Out → DSt → Prop) : RD E fl (.exit id) s Q = Q (.exit id) s := propext ⟨fun ⟨_, h⟩ => h, fun h => ⟨0, h⟩⟩
theorem RD_ret (s : DSt) (Q : Out → DSt → Prop) : RD E fl .ret s Q = Q .ret s := propext ⟨fun ⟨_, h⟩ => h, fun h => ⟨0, h⟩⟩
theorem RD_region (ops : List AOper) (s : DSt) (Q : Out → DSt → Prop) : RD E fl (.region ops) s Q = ROd E fl ops s (Q .normal) := by
  unfold RD ROd
  simp only [runCD, bindP_map]
  exact propext ⟨fun ⟨_, h⟩ => h, fun h => ⟨0, h⟩⟩
theorem RD_regionD (ops : List DOper) (s : DSt) (Q : Out → DSt → Prop) : RD E fl (.regionD ops) s Q = RODd E fl ops s (Q .normal) := by
  unfold RD RODd
  simp only [runCD, bindP_map]
  exact propext ⟨fun ⟨_, h⟩ => h, fun h => ⟨0, h⟩⟩
def andThenD (E : DEnv) (fl : Nat) (b : ACode) (Q : Out → DSt → Prop) : Out → DSt → Prop
  | .normal, s => RD E fl b s Q
  | o, s => Q o s
theorem RD_seq (a b : ACode) (s : DSt) (Q : Out → DSt → Prop) : RD E fl (.seq a b) s Q = RD E fl a s (andThenD E fl b Q) := by
  refine propext ⟨fun ⟨n, h⟩ => ⟨n, ?_⟩, fun ⟨n, h⟩ => ?_⟩
  · simp only [runCD] at h
    cases hr : runCD E (cd E) fl n a s with
    | none => rw [hr] at h; exact h.elim
    | some p =>
      obtain ⟨o, s'⟩ := p
      rw [hr] at h
      cases o with
      | normal => exact ⟨n, h⟩
      | exit _ => exact h
      | ret => exact h
  · rw [bindP_iff] at h
    obtain ⟨⟨o, s'⟩, hr, hq⟩ := h
    cases o with
    | normal =>
      obtain ⟨m, hm⟩ := hq
      rw [bindP_iff] at hm
      obtain ⟨p, hp, hq⟩ := hm
      refine ⟨max n m, ?_⟩
      simp only [runCD, runCD_mono monoRefl (Nat.le_max_left n m) hr, runCD_mono monoRefl (Nat.le_max_right n m) hp]
      exact hq
    | exit _ => exact ⟨n, by simp only [runCD, hr]; exact hq⟩
    | ret => exact ⟨n, by simp only [runCD, hr]; exact hq⟩
theorem andThenD_normal (b : ACode) (Q : Out → DSt → Prop) (s : DSt) : andThenD E fl b Q .normal s = RD E fl b s Q := rfl
theorem andThenD_exit (b : ACode) (Q : Out → DSt → Prop) (id : Nat) (s : DSt) : andThenD E fl b Q (.exit id) s = Q (.exit id) s := rfl
theorem andThenD_ret (b : ACode) (Q : Out → DSt → Prop) (s : DSt) : andThenD E fl b Q .ret s = Q .ret s := rfl
def outOfD (id : Nat) (Q : Out → DSt → Prop) : Out → DSt → Prop
  | .exit i, s => Q (if i = id then .normal else .exit i) s
  | o, s => Q o s
theorem outOfD_normal (id : Nat) (Q : Out → DSt → Prop) (s : DSt) : outOfD id Q .normal s = Q .normal s := rfl
theorem outOfD_ret (id : Nat) (Q : Out → DSt → Prop) (s : DSt) : outOfD id Q .ret s = Q .ret s := rfl
theorem outOfD_exit (id i : Nat) (Q : Out → DSt → Prop) (s : DSt) : outOfD id Q (.exit i) s = Q (if i = id then .normal else .exit i) s := rfl
theorem RD_block (id : Nat) (b : ACode) (s : DSt) (Q : Out → DSt → Prop) : RD E fl (.block id b) s Q = RD E fl b s (outOfD id Q) := by
  have : ∀ n, bindP (runCD E (cd E) fl n (.block id b) s) (fun p => Q p.1 p.2) = bindP (runCD E (cd E) fl n b s) (fun p => outOfD id Q p.1 p.2) := by
    intro n
    simp only [runCD]
    cases runCD E (cd E) fl n b s with
    | none => rfl
    | some p =>
      obtain ⟨o, s'⟩ := p
      cases o <;> rfl
  unfold RD
  simp only [this]
theorem RD_cond (c : X) (a b : ACode) (T : Trie AV) (L : DHeap) (Q : Out → DSt → Prop) : RD E fl (.cond c a b) ⟨T, L⟩ Q = condP (ev T c) (RD E fl a ⟨T, L⟩ Q) (RD E fl b ⟨T, L⟩ Q) := by
  unfold RD
  simp only [runCD]
  cases ev T c <;> try (simp [bindP, condP]; done)
  rename_i b
  cases b <;> rfl
def roundD (I : Nat → DSt → Prop) (k : Nat) (Q : Out → DSt → Prop) : Out → DSt → Prop
  | .normal, s => ∃ k', k' < k ∧ I k' s
  | o, s => Q o s
theorem roundD_normal (I : Nat → DSt → Prop) (k : Nat) (Q : Out → DSt → Prop) (s : DSt) : roundD I k Q .normal s = ∃ k', k' < k ∧ I k' s := rfl
theorem roundD_exit (I : Nat → DSt → Prop) (k : Nat) (Q : Out → DSt → Prop) (i : Nat) (s : DSt) : roundD I k Q (.exit i) s = Q (.exit i) s := rfl
theorem roundD_ret (I : Nat → DSt → Prop) (k : Nat) (Q : Out → DSt → Prop) (s : DSt) : roundD I k Q .ret s = Q .ret s := rfl
/-- A loop, by what holds at its head, and a number that falls. -/
theorem RD_loop {b : ACode} {s : DSt} {Q : Out → DSt → Prop} (I : Nat → DSt → Prop) (k : Nat) (h0 : I k s)
    (step : ∀ (k : Nat) (T : Trie AV) (L : DHeap), I k ⟨T, L⟩ → RD E fl b ⟨T, L⟩ (roundD I k Q)) : RD E fl (.loop b) s Q := by
  have key : ∀ (k : Nat) (s : DSt), I k s → ∃ n m, bindP (loopD (runCD E (cd E) fl n b) m s) (fun p => Q p.1 p.2) := by
    intro k
    induction k using Nat.strongRecOn with
    | ind k ih =>
      intro s hI
      obtain ⟨n, h1⟩ := step k s.T s.L hI
      rw [bindP_iff] at h1
      obtain ⟨⟨o, s'⟩, hr, hn⟩ := h1
      cases o with
      | normal =>
        obtain ⟨k', hk', hI'⟩ := hn
        obtain ⟨n2, m2, h2⟩ := ih k' hk' s' hI'
        rw [bindP_iff] at h2
        obtain ⟨p, hp, hq⟩ := h2
        refine ⟨max n n2, m2 + 1, ?_⟩
        have e1 : runCD E (cd E) fl (max n n2) b s = some (.normal, s') := runCD_mono monoRefl (Nat.le_max_left n n2) hr
        have e2 : loopD (runCD E (cd E) fl (max n n2) b) m2 s' = some p := loopD_mono (fun s r h => runCD_mono monoRefl (Nat.le_max_right n n2) h) (Nat.le_refl _) hp
        simp only [loopD, e1, e2]
        exact hq
      | exit id => exact ⟨n, 1, by simp only [loopD]; rw [show runCD E (cd E) fl n b s = some (.exit id, s') from hr]; exact hn⟩
      | ret => exact ⟨n, 1, by simp only [loopD]; rw [show runCD E (cd E) fl n b s = some (.ret, s') from hr]; exact hn⟩
  obtain ⟨n, m, h⟩ := key k s h0
  rw [bindP_iff] at h
  obtain ⟨p, hp, hq⟩ := h
  refine ⟨max n m, ?_⟩
  simp only [runCD]
  rw [loopD_mono (fun s r h => runCD_mono monoRefl (Nat.le_max_left n m) h) (Nat.le_max_right n m) hp]
  exact hq
theorem RD_mono {c : ACode} {s : DSt} {Q R : Out → DSt → Prop} (h : RD E fl c s Q) (hq : ∀ o s', Q o s' → R o s') : RD E fl c s R := by
  obtain ⟨n, h⟩ := h
  exact ⟨n, bindP_mono h fun p hp => hq p.1 p.2 hp⟩

/-! ### functions -/
theorem cd_prim {f : FuncId} {p : Prim} {args : List AV} {L : DHeap} {r : AV × DHeap} (hp : E.prim f = some p) (h : primD p args L = some r) : cd E fl f args L = some r := by
  refine cd_of (n := 1) ?_
  rw [callD, hp]
  exact h
theorem cd_fn {f : FuncId} {fn : AFunc} {args : List AV} {L : DHeap} {P : AV → DHeap → Prop} (hp : E.prim f = none) (hf : E.ft f = some fn)
    (h : RD E fl fn.body ⟨putArgs args 0 .leaf, L⟩ (fun o s => (o = .normal ∨ o = .ret) ∧ bindP (resD E s.T s.L fn.results) (fun v => P v s.L))) : ∃ v L', cd E fl f args L = some (v, L') ∧ P v L' := by
  obtain ⟨k, h⟩ := h
  rw [bindP_iff] at h
  obtain ⟨⟨o, s⟩, hr, ho, hq⟩ := h
  rw [bindP_iff] at hq
  obtain ⟨v, hv, hq⟩ := hq
  obtain ⟨n, hn⟩ := runCD_fin hr
  refine ⟨v, s.L, cd_of (n := max n k + 1) ?_, hq⟩
  have h1 := runCD_mono (c := callD E (max n k)) (d := callD E (max n k)) (fun _ _ _ _ _ h => h) (Nat.le_max_right n k) (hn (max n k) (Nat.le_max_left n k))
  rw [callD, hp]
  simp only [hf, h1]
  simp only at ho hv
  rcases ho with rfl | rfl <;> simp only [hv, Option.map_some]
theorem cd_fn_eq {f : FuncId} {fn : AFunc} {args : List AV} {L L' : DHeap} {v : AV} (hp : E.prim f = none) (hf : E.ft f = some fn)
    (h : RD E fl fn.body ⟨putArgs args 0 .leaf, L⟩ (fun o s => (o = .normal ∨ o = .ret) ∧ bindP (resD E s.T s.L fn.results) (fun w => w = v ∧ s.L = L'))) : cd E fl f args L = some (v, L') := by
  obtain ⟨w, M, h1, h2, h3⟩ := cd_fn (P := fun w M => w = v ∧ M = L') hp hf h
  rw [h1, h2, h3]
/-- A function of plain data: what it answers. -/
noncomputable def pd (E : DEnv) (f : FuncId) (args : List AV) : Option AV :=
  match cd E 0 f args [] with
  | some (v, L1) => frz L1 0 v
  | none => none
theorem pd_fn {f : FuncId} {fn : AFunc} {args : List AV} {d : AV} (hp : E.prim f = none) (hf : E.ft f = some fn)
    (h : RD E 0 fn.body ⟨putArgs args 0 .leaf, []⟩ (fun o s => (o = .normal ∨ o = .ret) ∧ bindP (resD E s.T s.L fn.results) (fun v => frz s.L 0 v = some d))) : pd E f args = some d := by
  obtain ⟨v, L', h1, h2⟩ := cd_fn (P := fun v L => frz L 0 v = some d) hp hf h
  unfold pd
  rw [h1]
  exact h2
/-- A function in a frame of its caller's heap: what it answers, and that heap. -/
noncomputable def rd (E : DEnv) (f : FuncId) (args : List AV) (L : DHeap) : Option (AV × DHeap) :=
  match cd E L.length f args L with
  | some (v, L1) => (frz L1 L.length v).map fun d => (d, L1.take L.length)
  | none => none
theorem rd_fn {f : FuncId} {fn : AFunc} {args : List AV} {L L' : DHeap} {d : AV} (hp : E.prim f = none) (hf : E.ft f = some fn)
    (h : RD E L.length fn.body ⟨putArgs args 0 .leaf, L⟩ (fun o s => (o = .normal ∨ o = .ret) ∧ bindP (resD E s.T s.L fn.results) (fun v => frz s.L L.length v = some d ∧ s.L.take L.length = L'))) : rd E f args L = some (d, L') := by
  obtain ⟨v, M, h1, h2, h3⟩ := cd_fn (P := fun v M => frz M L.length v = some d ∧ M.take L.length = L') hp hf h
  unfold rd
  rw [h1]
  simp only [h2, Option.map_some, h3]
def callP (E : DEnv) (g : FuncId) (args : List AV) (a : Option (List AV × Bool)) (r : List AV → Option AV) (L : DHeap) : Option (AV × DHeap) :=
  match a with
  | some (a, b) => match r a with
    | some d => some (d, if (b && !(atomic d)) = true then spent args L else L)
    | none => none
  | none => none
theorem callM_P {g : FuncId} (hm : E.mode g = .P) (args : List AV) (L : DHeap) : callM E (cd E) fl g args L = callP E g args (snaps L args) (pd E g) L := by
  unfold callM callP pd
  simp only [hm]
  cases snaps L args with
  | none => rfl
  | some p =>
    obtain ⟨a, b⟩ := p
    simp only
    cases cd E 0 g a [] with
    | none => rfl
    | some q => rfl
theorem callM_R {g : FuncId} (hm : E.mode g = .R) (args : List AV) (L : DHeap) : callM E (cd E) fl g args L = rd E g args L := by
  unfold callM rd
  simp only [hm]
  cases cd E L.length g args L with
  | none => rfl
  | some q =>
    obtain ⟨v, L1⟩ := q
    simp only
    cases frz L1 L.length v <;> rfl
theorem callM_S {g : FuncId} (hm : E.mode g = .S) (args : List AV) (L : DHeap) : callM E (cd E) fl g args L = cd E fl g args L := by
  unfold callM
  simp only [hm]
end
end Go.AI
