/- THE DATA MACHINE, 3: the two heaps; what becomes of them. Own work. -/
import Derived.Test.YtmjhiaedgpikdaaB2
set_option linter.unusedSimpArgs false
set_option linter.unusedVariables false
namespace Go.AI

theorem hget_lt {L : DHeap} {k : Nat} {B : DBlk} (h : hget L k = some B) : k < L.length := by
  unfold hget at h
  cases e : L[k]? with
  | none => rw [e] at h; cases h
  | some b => exact (List.getElem?_eq_some_iff.1 e).1
theorem length_halloc (L : DHeap) (b : DBlk) : (halloc L b).length = L.length + 1 := by simp [halloc]
theorem length_hset (L : DHeap) (k : Nat) (b : DBlk) : (hset L k b).length = L.length := by simp [hset]
theorem hget_halloc (L : DHeap) (b : DBlk) (k : Nat) : hget (halloc L b) k = if k = L.length then some b else hget L k := by
  unfold hget halloc
  rw [List.getElem?_append]
  by_cases h : k < L.length
  · rw [if_pos h, if_neg (by omega)]
  · rw [if_neg h]
    by_cases h2 : k = L.length
    · subst h2; simp
    · rw [if_neg h2]
      obtain ⟨p, hp⟩ : ∃ p, k - L.length = p + 1 := ⟨k - L.length - 1, by omega⟩
      rw [hp, List.getElem?_eq_none (by simp), List.getElem?_eq_none (by omega)]
theorem hget_hset (L : DHeap) (k : Nat) (b : DBlk) (hk : k < L.length) (j : Nat) : hget (hset L k b) j = if j = k then some b else hget L j := by
  unfold hget hset
  rw [List.getElem?_set]
  by_cases h : k = j
  · subst h; simp [hk]
  · rw [if_neg h, if_neg (fun e => h e.symm)]
theorem length_hkill (L : DHeap) (k : Nat) : (hkill L k).length = L.length := by simp [hkill]
theorem hget_hkill (L : DHeap) (k j : Nat) : hget (hkill L k) j = if j = k then none else hget L j := by
  unfold hget hkill
  rw [List.getElem?_set]
  by_cases h : k = j
  · subst h
    by_cases h2 : k < L.length <;> simp [h2]
  · rw [if_neg h, if_neg (fun e => h e.symm)]
theorem hget_take (L : DHeap) (n k : Nat) : hget (L.take n) k = if k < n then hget L k else none := by
  unfold hget
  rw [List.getElem?_take]
  by_cases h : k < n <;> simp [h]

def BRd (C : Ctx) (i : Id) : DBlk → Prop
  | .cells cs => ∃ cs' s, C.H.get i = some (.cells cs' s) ∧ DVs C cs cs'
  | .rows e rs g => evenB e rs = true ∧ (real (.rows e rs g) = true → ∃ cs', C.H.get i = some (.cells cs' (if g = true then e else 0)) ∧ DVr C rs cs')
  | .map es c => ∃ es', C.H.get i = some (.map es' c) ∧ es'.map (·.2.2) = es.map (·.2.2) ∧ DVs C (es.map (·.1)) (es'.map (·.1)) ∧ DVs C (es.map (·.2.1)) (es'.map (·.2.1))
structure Inv (K : Id → Prop) (G : Nat → Option (List AV)) (C : Ctx) : Prop where
  blk : ∀ k B, hget C.L k = some B → BRd C (C.m k) B
  new : ∀ k B, hget C.L k = some B → real B = true → ∃ j, C.m k = .n j
  inj : ∀ j k A B, hget C.L j = some A → hget C.L k = some B → real A = true → real B = true → C.m j = C.m k → j = k
  sep : ∀ k B, hget C.L k = some B → real B = true → ¬ K (C.m k) ∧ ¬ C.F (C.m k)
  lt : ∀ j, K (.n j) ∨ C.F (.n j) → j < C.H.next
  glob : ∀ g cs, G g = some cs → K (.o g) ∧ belows 0 cs = true ∧ ∃ cs' s, C.H.get (.o g) = some (.cells cs' s) ∧ DVs C cs cs'
structure Stp (K : Id → Prop) (G : Nat → Option (List AV)) (C D : Ctx) : Prop where
  inv : Inv K G D
  ext : Ext C D
  keep : ∀ i, K i → D.H.get i = C.H.get i
  fresh : ∀ i, D.F i → C.F i ∨ ¬ K i
  next : C.H.next ≤ D.H.next

theorem Compat.trans {i j l : Id} {A B D : DBlk} (h : Compat i j A B) (k : Compat j l B D) : Compat i l A D := by
  cases A <;> cases B <;> first
    | exact h.elim
    | skip
  all_goals cases D <;> first
    | exact k.elim
    | skip
  · exact (show l = j from k).trans (show j = i from h)
  · obtain ⟨h1, h2⟩ := h
    obtain ⟨k1, k2⟩ := k
    refine ⟨k1.trans h1, ?_⟩
    rcases h2 with ⟨a1, a2, a3⟩ | ⟨a1, a2⟩
    · rcases k2 with ⟨b1, b2, b3⟩ | ⟨b1, b2⟩
      · exact .inl ⟨b1.trans a1, b2.trans a2, b3.trans a3⟩
      · exact .inr ⟨h1 ▸ b1, by omega⟩
    · rcases k2 with ⟨b1, b2, b3⟩ | ⟨b1, b2⟩
      · exact .inr ⟨a1, by omega⟩
      · exact .inr ⟨a1, by omega⟩
  · exact (show l = j from k).trans (show j = i from h)
theorem Compat.refl (i : Id) (A : DBlk) : Compat i i A A := by
  cases A
  · rfl
  · exact ⟨rfl, .inl ⟨rfl, rfl, rfl⟩⟩
  · rfl
theorem Ext.trans {C D M : Ctx} (h : Ext C D) (k : Ext D M) : Ext C M := by
  refine ⟨Nat.le_trans h.len k.len, fun i hi => ?_, fun j B hj hB => ?_⟩
  · obtain ⟨h1, h2⟩ := h.frz i hi
    obtain ⟨h3, h4⟩ := k.frz i h1
    exact ⟨h3, h4.trans h2⟩
  · obtain ⟨A, hA, c1⟩ := k.blk j B (Nat.lt_of_lt_of_le hj h.len) hB
    obtain ⟨A', hA', c2⟩ := h.blk j A hj hA
    exact ⟨A', hA', c2.trans c1⟩
theorem Ext.refl (C : Ctx) : Ext C C := ⟨Nat.le_refl _, fun _ h => ⟨h, rfl⟩, fun _ B _ h => ⟨B, h, Compat.refl _ _⟩⟩
section
variable {K : Id → Prop} {G : Nat → Option (List AV)}
theorem Stp.trans {C D M : Ctx} (h : Stp K G C D) (k : Stp K G D M) : Stp K G C M :=
  ⟨k.inv, h.ext.trans k.ext, fun i hi => (k.keep i hi).trans (h.keep i hi), fun i hi => (k.fresh i hi).elim (fun h1 => h.fresh i h1) .inr, Nat.le_trans h.next k.next⟩
theorem Stp.refl {C : Ctx} (h : Inv K G C) : Stp K G C C := ⟨h, Ext.refl C, fun _ _ => rfl, fun _ h => .inl h, Nat.le_refl _⟩

theorem BRd.ext {C D : Ctx} (h : Ext C D) {i : Id} {B : DBlk} (hg : real B = true → D.H.get i = C.H.get i) (hb : BRd C i B) : BRd D i B := by
  cases B with
  | cells cs =>
    obtain ⟨cs', s, h1, h2⟩ := hb
    exact ⟨cs', s, (hg rfl).trans h1, h2.ext h⟩
  | rows e rs g =>
    refine ⟨hb.1, fun hr => ?_⟩
    obtain ⟨cs', h1, h2⟩ := hb.2 hr
    exact ⟨cs', (hg hr).trans h1, h2.ext h⟩
  | map es c =>
    obtain ⟨es', h1, h2, h3, h4⟩ := hb
    exact ⟨es', (hg rfl).trans h1, h2, h3.ext h, h4.ext h⟩

/-- One name is turned. -/
theorem Stp.one {C D : Ctx} (hI : Inv K G C) (k0 : Nat) (hlen : C.L.length ≤ D.L.length) (hF : D.F = C.F)
    (hoth : ∀ k, k ≠ k0 → hget D.L k = hget C.L k ∧ D.m k = C.m k)
    (hcomp : ∀ B, k0 < C.L.length → hget D.L k0 = some B → ∃ A, hget C.L k0 = some A ∧ Compat (C.m k0) (D.m k0) A B)
    (hkeep : ∀ i, (∀ k B, k = k0 → hget C.L k = some B → real B = true → i ≠ C.m k) → (∀ j, i = .n j → j < C.H.next) → D.H.get i = C.H.get i)
    (hnext : C.H.next ≤ D.H.next)
    (hB : Ext C D → ∀ B, hget D.L k0 = some B → BRd D (D.m k0) B)
    (hid : ∀ B, hget D.L k0 = some B → real B = true → (∃ j, D.m k0 = .n j ∧ C.H.next ≤ j) ∨ (D.m k0 = C.m k0 ∧ ∃ A, hget C.L k0 = some A ∧ real A = true)) : Stp K G C D := by
  have live : ∀ k B, hget C.L k = some B → real B = true → ∀ j, C.m k = .n j → j < C.H.next := by
    intro k B hk hr j hj
    have hb := hI.blk k B hk
    rw [hj] at hb
    cases B with
    | cells cs => obtain ⟨_, _, h1, _⟩ := hb; exact AHeap.get_lt h1
    | rows e rs g => obtain ⟨_, h1, _⟩ := hb.2 hr; exact AHeap.get_lt h1
    | map es c => obtain ⟨_, h1, _⟩ := hb; exact AHeap.get_lt h1
  have keepKF : ∀ i, K i ∨ C.F i → D.H.get i = C.H.get i := by
    intro i hi
    refine hkeep i (fun k B hk hB hr e => ?_) (fun j hj => hI.lt j (by rw [← hj]; exact hi))
    obtain ⟨s1, s2⟩ := hI.sep k B hB hr
    rw [e] at hi
    exact hi.elim s1 s2
  have keepO : ∀ k B, k ≠ k0 → hget C.L k = some B → real B = true → D.H.get (C.m k) = C.H.get (C.m k) := by
    intro k B hk hB hr
    refine hkeep _ (fun k' B' hk' hB' hr' e => ?_) (fun j hj => live k B hB hr j hj)
    exact hk ((hI.inj k k' B B' hB hB' hr hr' e).trans hk')
  have hext : Ext C D := by
    refine ⟨hlen, fun i hi => ⟨by rw [hF]; exact hi, keepKF i (.inr hi)⟩, fun k B hk hB1 => ?_⟩
    by_cases e : k = k0
    · subst e; exact hcomp B hk hB1
    · obtain ⟨h1, h2⟩ := hoth k e
      rw [h1] at hB1
      exact ⟨B, hB1, by rw [h2]; exact Compat.refl _ _⟩
  refine ⟨⟨?_, ?_, ?_, ?_, ?_, ?_⟩, hext, fun i hi => keepKF i (.inl hi), fun i hi => .inl (by rw [← hF]; exact hi), hnext⟩
  · intro k B hk
    by_cases e : k = k0
    · subst e; exact hB hext B hk
    · obtain ⟨h1, h2⟩ := hoth k e
      rw [h1] at hk
      rw [h2]
      exact (hI.blk k B hk).ext hext (fun hr => keepO k B e hk hr)
  · intro k B hk hr
    by_cases e : k = k0
    · subst e
      rcases hid B hk hr with ⟨j, hj, _⟩ | ⟨h1, A, hA, hr'⟩
      · exact ⟨j, hj⟩
      · rw [h1]; exact hI.new k A hA hr'
    · obtain ⟨h1, h2⟩ := hoth k e
      rw [h1] at hk
      rw [h2]
      exact hI.new k B hk hr
  · have key : ∀ k B, k ≠ k0 → hget C.L k = some B → real B = true → ∀ B0, hget D.L k0 = some B0 → real B0 = true → D.m k0 ≠ C.m k := by
      intro k B hk hB hr B0 hB0 hr0 e
      rcases hid B0 hB0 hr0 with ⟨j, hj, hj2⟩ | ⟨h1, A, hA, hr'⟩
      · have := live k B hB hr j (by rw [← e, hj])
        omega
      · exact hk (hI.inj k k0 B A hB hA hr hr' (by rw [← e, h1]))
    intro j k A B hj hk hrj hrk e
    by_cases ej : j = k0
    · by_cases ek : k = k0
      · rw [ej, ek]
      · subst ej
        obtain ⟨h1, h2⟩ := hoth k ek
        rw [h1] at hk
        rw [h2] at e
        exact absurd e (key k B ek hk hrk A hj hrj)
    · by_cases ek : k = k0
      · subst ek
        obtain ⟨h1, h2⟩ := hoth j ej
        rw [h1] at hj
        rw [h2] at e
        exact absurd e.symm (key j A ej hj hrj B hk hrk)
      · obtain ⟨h1, h2⟩ := hoth j ej
        obtain ⟨h3, h4⟩ := hoth k ek
        rw [h1] at hj
        rw [h3] at hk
        rw [h2, h4] at e
        exact hI.inj j k A B hj hk hrj hrk e
  · intro k B hk hr
    rw [hF]
    by_cases e : k = k0
    · subst e
      rcases hid B hk hr with ⟨j, hj, hj2⟩ | ⟨h1, A, hA, hr'⟩
      · rw [hj]
        exact ⟨fun h => by have := hI.lt j (.inl h); omega, fun h => by have := hI.lt j (.inr h); omega⟩
      · rw [h1]; exact hI.sep k A hA hr'
    · obtain ⟨h1, h2⟩ := hoth k e
      rw [h1] at hk
      rw [h2]
      exact hI.sep k B hk hr
  · intro j hj
    rw [hF] at hj
    exact Nat.lt_of_lt_of_le (hI.lt j hj) hnext
  · intro g cs hg
    obtain ⟨h1, h0, cs', s, h2, h3⟩ := hI.glob g cs hg
    exact ⟨h1, h0, cs', s, (keepKF _ (.inl h1)).trans h2, h3.ext hext⟩

def updm (m : Nat → Id) (k : Nat) (i : Id) : Nat → Id := fun j => if j = k then i else m j
theorem updm_same (m : Nat → Id) (k : Nat) (i : Id) : updm m k i k = i := by simp [updm]
theorem updm_other (m : Nat → Id) {k j : Nat} (i : Id) (h : j ≠ k) : updm m k i j = m j := by simp [updm, h]

/-- A new block. -/
theorem Stp.alloc {C : Ctx} (hI : Inv K G C) (B : DBlk) (B' : ABlk)
    (hB : Ext C ⟨halloc C.L B, updm C.m C.L.length (.n C.H.next), C.H.alloc B', C.F⟩ → BRd ⟨halloc C.L B, updm C.m C.L.length (.n C.H.next), C.H.alloc B', C.F⟩ (.n C.H.next) B) :
    Stp K G C ⟨halloc C.L B, updm C.m C.L.length (.n C.H.next), C.H.alloc B', C.F⟩ := by
  refine Stp.one hI C.L.length (by simp only [length_halloc]; omega) rfl (fun k hk => ⟨by simp only [hget_halloc, if_neg hk], updm_other _ _ hk⟩) (fun B hlt => absurd hlt (Nat.lt_irrefl _)) ?_ (Nat.le_succ _) ?_ ?_
  · intro i _ hi
    show (C.H.alloc B').get i = _
    rw [AHeap.get_alloc, if_neg]
    intro e
    have := hi _ e
    omega
  · intro hext B0 h0
    have h0 : hget (halloc C.L B) C.L.length = some B0 := h0
    rw [hget_halloc, if_pos rfl] at h0
    cases h0
    show BRd _ (updm C.m C.L.length (.n C.H.next) C.L.length) _
    rw [updm_same]
    exact hB hext
  · intro B0 _ _
    exact .inl ⟨C.H.next, updm_same _ _ _, Nat.le_refl _⟩
/-- A list that is still empty. -/
theorem Stp.allocNil {C : Ctx} (hI : Inv K G C) (e : Nat) : Stp K G C ⟨halloc C.L (.rows e [] true), C.m, C.H, C.F⟩ := by
  refine Stp.one hI C.L.length (by simp only [length_halloc]; omega) rfl (fun k hk => ⟨by simp only [hget_halloc, if_neg hk], rfl⟩) (fun B hlt => absurd hlt (Nat.lt_irrefl _)) (fun _ _ _ => rfl) (Nat.le_refl _) ?_ ?_
  · intro hext B0 h0
    have h0 : hget (halloc C.L (.rows e [] true)) C.L.length = some B0 := h0
    rw [hget_halloc, if_pos rfl] at h0
    cases h0
    exact ⟨rfl, fun h => by cases h⟩
  · intro B0 h0 hr
    have h0 : hget (halloc C.L (.rows e [] true)) C.L.length = some B0 := h0
    rw [hget_halloc, if_pos rfl] at h0
    cases h0
    cases hr
/-- A block of the second machine that nothing here stands for. -/
theorem Stp.garbage {C : Ctx} (hI : Inv K G C) (b : ABlk) : Stp K G C ⟨C.L, C.m, C.H.alloc b, C.F⟩ := by
  refine Stp.one hI C.L.length (Nat.le_refl _) rfl (fun k hk => ⟨rfl, rfl⟩) (fun B hlt => absurd hlt (Nat.lt_irrefl _)) (fun i _ hi => ?_) (Nat.le_succ _) ?_ ?_
  · show (C.H.alloc b).get i = _
    rw [AHeap.get_alloc, if_neg]
    intro e
    have := hi _ e
    omega
  · intro _ B h
    exact absurd (hget_lt h) (Nat.lt_irrefl _)
  · intro B h
    exact absurd (hget_lt h) (Nat.lt_irrefl _)
/-- A block is written. -/
theorem Stp.set {C : Ctx} (hI : Inv K G C) {k j : Nat} {A : DBlk} (hk : hget C.L k = some A) (hrA : real A = true) (hj : C.m k = .n j) (B : DBlk) (B' : ABlk)
    (hc : Compat (C.m k) (C.m k) A B)
    (hB : Ext C ⟨hset C.L k B, C.m, C.H.setN j B', C.F⟩ → BRd ⟨hset C.L k B, C.m, C.H.setN j B', C.F⟩ (.n j) B) :
    Stp K G C ⟨hset C.L k B, C.m, C.H.setN j B', C.F⟩ := by
  have hlt := hget_lt hk
  refine Stp.one hI k (by simp only [length_hset]; omega) rfl (fun i hi => ⟨by simp only [hget_hset _ _ _ hlt, if_neg hi], rfl⟩) (fun B0 _ h0 => ?_) ?_ (Nat.le_refl _) ?_ ?_
  · have h0 : hget (hset C.L k B) k = some B0 := h0
    rw [hget_hset _ _ _ hlt, if_pos rfl] at h0
    cases h0
    exact ⟨A, hk, hc⟩
  · intro i hi _
    show (C.H.setN j B').get i = _
    exact AHeap.get_setN_ne _ _ (by rw [← hj]; exact hi k A rfl hk hrA)
  · intro hext B0 h0
    have h0 : hget (hset C.L k B) k = some B0 := h0
    rw [hget_hset _ _ _ hlt, if_pos rfl] at h0
    cases h0
    show BRd _ (C.m k) _
    rw [hj]
    exact hB hext
  · intro B0 _ _
    exact .inr ⟨rfl, A, hk, hrA⟩
/-- A list grows: a new block stands for it. -/
theorem Stp.grow {C : Ctx} (hI : Inv K G C) {k : Nat} {e f : Nat} {rs us : List (List AV)} (hk : hget C.L k = some (.rows e rs true)) (hl : rs.length < us.length) (H0 : AHeap) (B' : ABlk)
    (hH : (H0 = C.H ∧ rs = []) ∨ ∃ j, C.m k = .n j ∧ H0 = C.H.kill j ∧ rs ≠ [])
    (hB : Ext C ⟨hset C.L k (.rows f us true), updm C.m k (.n C.H.next), H0.alloc B', C.F⟩ → BRd ⟨hset C.L k (.rows f us true), updm C.m k (.n C.H.next), H0.alloc B', C.F⟩ (.n C.H.next) (.rows f us true)) :
    Stp K G C ⟨hset C.L k (.rows f us true), updm C.m k (.n C.H.next), H0.alloc B', C.F⟩ := by
  have hlt := hget_lt hk
  have hn : H0.next = C.H.next := by rcases hH with ⟨h, _⟩ | ⟨j, _, h, _⟩ <;> rw [h] <;> rfl
  refine Stp.one hI k (by simp only [length_hset]; omega) rfl (fun i hi => ⟨by simp only [hget_hset _ _ _ hlt, if_neg hi], updm_other _ _ hi⟩) (fun B0 _ h0 => ?_) ?_ (by show C.H.next ≤ H0.next + 1; omega) ?_ ?_
  · have h0 : hget (hset C.L k _) k = some B0 := h0
    rw [hget_hset _ _ _ hlt, if_pos rfl] at h0
    cases h0
    exact ⟨_, hk, rfl, .inr ⟨rfl, hl⟩⟩
  · intro i hi hi2
    show (H0.alloc B').get i = _
    rw [AHeap.get_alloc, if_neg (by intro e; rw [hn] at e; have := hi2 _ e; omega)]
    rcases hH with ⟨h, _⟩ | ⟨j, hj, h, hne⟩
    · rw [h]
    · rw [h, AHeap.get_kill, if_neg]
      intro e1
      have hr : real (.rows e rs true) = true := by
        cases rs with
        | nil => exact absurd rfl hne
        | cons _ _ => rfl
      exact hi k _ rfl hk hr (by rw [hj, e1])
  · intro hext B0 h0
    have h0 : hget (hset C.L k _) k = some B0 := h0
    rw [hget_hset _ _ _ hlt, if_pos rfl] at h0
    cases h0
    show BRd _ (updm C.m k (.n C.H.next) k) _
    rw [updm_same]
    exact hB hext
  · intro B0 _ _
    exact .inl ⟨C.H.next, updm_same _ _ _, Nat.le_refl _⟩
/-- A block is let go. -/
theorem Stp.kill {C : Ctx} (hI : Inv K G C) {k j : Nat} {A : DBlk} (hk : hget C.L k = some A) (hrA : real A = true) (hj : C.m k = .n j) : Stp K G C ⟨hkill C.L k, C.m, C.H.kill j, C.F⟩ := by
  refine Stp.one hI k (by simp only [length_hkill]; omega) rfl (fun i hi => ⟨by simp only [hget_hkill, if_neg hi], rfl⟩) (fun B _ h0 => ?_) ?_ (Nat.le_refl _) ?_ ?_
  · have h0 : hget (hkill C.L k) k = some B := h0
    rw [hget_hkill, if_pos rfl] at h0
    cases h0
  · intro i hi _
    show (C.H.kill j).get i = _
    rw [AHeap.get_kill, if_neg (by rw [← hj]; exact hi k A rfl hk hrA)]
  · intro hext B h0
    have h0 : hget (hkill C.L k) k = some B := h0
    rw [hget_hkill, if_pos rfl] at h0
    cases h0
  · intro B h0
    have h0 : hget (hkill C.L k) k = some B := h0
    rw [hget_hkill, if_pos rfl] at h0
    cases h0
end
end Go.AI
