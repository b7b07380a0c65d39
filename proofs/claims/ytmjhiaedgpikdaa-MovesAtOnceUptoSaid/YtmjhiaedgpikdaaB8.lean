/- THE DATA MACHINE, 8: calls, code, functions: what it answers the second machine answers. Own work. -/
import Derived.Test.YtmjhiaedgpikdaaB7
set_option linter.unusedSimpArgs false
set_option linter.unusedVariables false
namespace Go.AI

section
variable {C : Ctx} {K : Id → Prop} {G : Nat → Option (List AV)}
def live (C : Ctx) (i : Id) : Prop := ∃ k B, hget C.L k = some B ∧ real B = true ∧ i = C.m k
theorem Inv.live_lt (hI : Inv K G C) {j : Nat} (h : live C (.n j)) : j < C.H.next := by
  obtain ⟨k, B, hk, hr, hj⟩ := h
  have hb := hI.blk k B hk
  rw [← hj] at hb
  cases B with
  | cells cs => obtain ⟨_, _, h1, _⟩ := hb; exact AHeap.get_lt h1
  | rows e rs g => obtain ⟨_, h1, _⟩ := hb.2 hr; exact AHeap.get_lt h1
  | map es c => obtain ⟨_, h1, _⟩ := hb; exact AHeap.get_lt h1
theorem DVr.names {rs : List (List AV)} {l : List AV} (h : DVr C rs l) : ∀ r ∈ rs, belows C.L.length r = true := by
  have := (DVr_iff.1 h).names
  rw [belows_iff] at this
  intro r hr
  rw [belows_iff]
  exact fun v hv => this v (List.mem_flatten.2 ⟨r, hr, hv⟩)
theorem Inv.bel (hI : Inv K G C) : Bel C.L.length C.L := by
  refine ⟨Nat.le_refl _, fun k B _ hB => ?_⟩
  have hb := hI.blk k B hB
  cases B with
  | cells cs => obtain ⟨_, _, _, h⟩ := hb; exact h.names
  | rows e rs g =>
    cases rs with
    | nil => intro r hr; cases hr
    | cons r rs => obtain ⟨_, _, h⟩ := hb.2 rfl; exact h.names
  | map es c =>
    obtain ⟨es', _, _, h1, h2⟩ := hb
    have n1 := h1.names
    have n2 := h2.names
    rw [belows_iff] at n1 n2
    exact fun e he => ⟨n1 _ (List.mem_map.2 ⟨e, he, rfl⟩), n2 _ (List.mem_map.2 ⟨e, he, rfl⟩)⟩
theorem snap1_ok (hI : Inv K G C) {v a b' : AV} {b : Bool} (h : snap1 C.L v = some (a, b)) (hv : DV C v b') :
    (b = false → DV ⟨[], C.m, C.H, C.F⟩ a b') ∧ ∀ F' : Id → Prop, (∀ i, C.F i → F' i) → (∀ k off len cap t B, v = .slc (.n k) off len cap t → hget C.L k = some B → real B = true → F' (C.m k)) → DV ⟨[], C.m, C.H, F'⟩ a b' := by
  unfold snap1 at h
  split at h
  · rename_i hp
    cases h
    exact ⟨fun _ => DV.chg (C := C) (D := ⟨[], C.m, C.H, C.F⟩) (n := 0) (fun i hi => ⟨hi, rfl⟩) (fun k hk => by omega) (pur_below 0 hp) hv,
      fun F' h1 _ => DV.chg (C := C) (D := ⟨[], C.m, C.H, F'⟩) (n := 0) (fun i hi => ⟨h1 i hi, rfl⟩) (fun k hk => by omega) (pur_below 0 hp) hv⟩
  · split at h
    · cases h
      have : ∀ D, DV D (.lst []) b' := by
        intro D
        rcases hv with rfl | ⟨i, off, rfl⟩
        · exact ⟨rfl, .inl ⟨rfl, .inl rfl⟩⟩
        · exact ⟨rfl, .inl ⟨rfl, .inr ⟨_, _, _, _, rfl⟩⟩⟩
      exact ⟨fun _ => this _, fun _ _ _ => this _⟩
    · split at h
      case h_2 => cases h
      rename_i hrs
      split at h
      case isFalse => cases h
      rename_i hp
      cases h
      exact ⟨fun h => (nomatch h), fun F' h1 h2 => frz_slc hI hrs hp hv h1 (fun B hB hr => h2 _ _ _ _ _ B rfl hB hr) [] C.m⟩
    · cases h
theorem snaps_ok (hI : Inv K G C) : ∀ {v a b' : List AV} {b : Bool}, snaps C.L v = some (a, b) → DVs C v b' →
    (b = false → DVs ⟨[], C.m, C.H, C.F⟩ a b') ∧ ∀ F' : Id → Prop, (∀ i, C.F i → F' i) → (∀ k off len cap t B, .slc (.n k) off len cap t ∈ v → hget C.L k = some B → real B = true → F' (C.m k)) → DVs ⟨[], C.m, C.H, F'⟩ a b'
  | [], a, b', b, h, hv => by cases h; exact ⟨fun _ => hv, fun _ _ _ => hv⟩
  | x :: l, a, b', b, h, hv => by
    simp only [snaps] at h
    split at h
    · rename_i a1 b1 l1 c1 h1 h2
      cases h
      obtain ⟨y, ys, rfl, hy, hys⟩ := hv
      obtain ⟨p1, p2⟩ := snap1_ok hI h1 hy
      obtain ⟨q1, q2⟩ := snaps_ok hI h2 hys
      refine ⟨fun hb => ?_, fun F' f1 f2 => DVs.cons (p2 F' f1 fun k off len cap t B e => f2 k off len cap t B (by rw [e]; exact List.mem_cons_self)) (q2 F' f1 fun k off len cap t B e => f2 k off len cap t B (List.mem_cons_of_mem _ e))⟩
      rw [Bool.or_eq_false_iff] at hb
      exact DVs.cons (p1 hb.1) (q1 hb.2)
    · cases h
theorem length_killV (v : AV) (L : DHeap) : (killV v L).length = L.length := by
  unfold killV
  split
  · exact length_hkill _ _
  · rfl
theorem hget_killV {v : AV} {L : DHeap} {k : Nat} {B : DBlk} (h : hget (killV v L) k = some B) : hget L k = some B ∧ ∀ off len cap t, v ≠ .slc (.n k) off len cap t := by
  unfold killV at h
  split at h
  · rename_i j off len cap t
    rw [hget_hkill] at h
    split at h
    · cases h
    · rename_i hne
      refine ⟨h, fun off len cap t e => hne ?_⟩
      cases e
      rfl
  · rename_i hn
    exact ⟨h, fun off len cap t e => hn _ _ _ _ _ e⟩
theorem length_spent : ∀ (l : List AV) (L : DHeap), (spent l L).length = L.length
  | [], L => rfl
  | v :: r, L => by
    show (spent r (killV v L)).length = _
    rw [length_spent r, length_killV]
theorem hget_spent : ∀ {l : List AV} {L : DHeap} {k : Nat} {B : DBlk}, hget (spent l L) k = some B → hget L k = some B ∧ ∀ off len cap t, .slc (.n k) off len cap t ∉ l
  | [], L, k, B, h => ⟨h, fun _ _ _ _ h => by cases h⟩
  | v :: r, L, k, B, h => by
    obtain ⟨h1, h2⟩ := hget_spent (l := r) h
    obtain ⟨h3, h4⟩ := hget_killV h1
    refine ⟨h3, fun off len cap t hm => ?_⟩
    rcases List.mem_cons.1 hm with e | hm
    · exact h4 off len cap t e.symm
    · exact h2 off len cap t hm
theorem Bel.spent {n : Nat} {L : DHeap} (h : Bel n L) (l : List AV) : Bel n (Go.AI.spent l L) := by
  refine ⟨by rw [length_spent]; exact h.1, fun k B hk hB => h.2 k B hk (hget_spent hB).1⟩
end

def CallOkD (E : DEnv) (call : DCall) (callA : CallT) : Prop :=
  ∀ fl f args L v L', call fl f args L = some (v, L') →
    (∀ K C args', C.L = L → Inv K E.glob C → DVs C args args' → ∃ v' m' H' F', callA f args' C.H = some (v', H') ∧ Stp K E.glob C ⟨L', m', H', F'⟩ ∧ DV ⟨L', m', H', F'⟩ v v') ∧
    ∀ n, n ≤ fl → Bel n L → Bel n L'

section
variable {E : DEnv} {call : DCall} {callA : CallT}
theorem callM_ok (hc : CallOkD E call callA) : CallOkD E (callM E call) callA := by
  intro fl g args L v L' h
  unfold callM at h
  split at h
  · -- in a heap of its own
    split at h
    case h_2 => cases h
    rename_i a b hsn
    split at h
    case h_2 => cases h
    rename_i v1 L1 hcall
    split at h
    case h_2 => cases h
    rename_i d hfr
    cases h
    refine ⟨fun K C args' hL hI hargs => ?_, fun n _ hb => by split; exact hb.spent _; exact hb⟩
    subst hL
    obtain ⟨p1, p2⟩ := snaps_ok hI hsn hargs
    -- what is kept while it runs
    have hK0 : ∀ (F0 : Id → Prop), (∀ i, C.F i → F0 i) → (∀ i, F0 i → C.F i ∨ live C i) → Inv (fun i => K i ∨ C.F i ∨ live C i) E.glob ⟨[], C.m, C.H, F0⟩ := by
      intro F0 hF1 hF0
      refine ⟨fun k B hk => by simp [hget] at hk, fun k B hk => by simp [hget] at hk, fun j k A B hk => by simp [hget] at hk, fun k B hk => by simp [hget] at hk, fun j hj => ?_, fun g cs hg => ?_⟩
      · rcases hj with (hj | hj | hj) | hj
        · exact hI.lt j (.inl hj)
        · exact hI.lt j (.inr hj)
        · exact hI.live_lt hj
        · rcases hF0 _ hj with hj | hj
          · exact hI.lt j (.inr hj)
          · exact hI.live_lt hj
      · obtain ⟨h1, h0, cs', s, h2, h3⟩ := hI.glob g cs hg
        exact ⟨.inl h1, h0, cs', s, h2, DVs.chg (C := C) (D := ⟨[], C.m, C.H, F0⟩) (n := 0) (fun i hi => ⟨hF1 i hi, rfl⟩) (fun k hk => by omega) h0 h3⟩
    -- what is there behind it
    have back : ∀ (L' : DHeap) (F0 : Id → Prop) (m1 : Nat → Id) (H1 : AHeap) (F1 F2 : Id → Prop), (∀ k B, hget L' k = some B → hget C.L k = some B) → L'.length = C.L.length →
        Stp (fun i => K i ∨ C.F i ∨ live C i) E.glob ⟨[], C.m, C.H, F0⟩ ⟨L1, m1, H1, F1⟩ → (∀ i, C.F i → F2 i) → (∀ k B, hget L' k = some B → real B = true → ¬ F2 (C.m k)) → (∀ i, F2 i → C.F i ∨ ¬ K i) →
        (∀ j, F2 (.n j) → j < H1.next) → Stp K E.glob C ⟨L', C.m, H1, F2⟩ := by
      intro L' F0 m1 H1 F1 F2 hL1 hL2 st hF2 hsep hfr hlt
      have hkeep := st.keep
      have hext : Ext C ⟨L', C.m, H1, F2⟩ := ⟨Nat.le_of_eq hL2.symm, fun i hi => ⟨hF2 i hi, hkeep i (.inr (.inl hi))⟩, fun k B _ hB => ⟨B, hL1 k B hB, Compat.refl _ _⟩⟩
      refine ⟨⟨fun k B hk => (hI.blk k B (hL1 k B hk)).ext hext fun hr => hkeep _ (.inr (.inr ⟨k, B, hL1 k B hk, hr, rfl⟩)), fun k B hk hr => hI.new k B (hL1 k B hk) hr, fun j k A B hj hk hrj hrk e => hI.inj j k A B (hL1 j A hj) (hL1 k B hk) hrj hrk e, fun k B hk hr => ⟨(hI.sep k B (hL1 k B hk) hr).1, hsep k B hk hr⟩, fun j hj => ?_, fun g cs hg => ?_⟩, hext, fun i hi => hkeep i (.inl hi), hfr, st.next⟩
      · rcases hj with hj | hj
        · exact Nat.lt_of_lt_of_le (hI.lt j (.inl hj)) st.next
        · exact hlt j hj
      · obtain ⟨h1, h0, cs', s, h2, h3⟩ := hI.glob g cs hg
        exact ⟨h1, h0, cs', s, (hkeep _ (.inl h1)).trans h2, h3.ext hext⟩
    cases b with
    | false =>
      obtain ⟨v', m1, H1, F1, e1, st, hv⟩ := (hc _ _ _ _ _ _ hcall).1 (fun i => K i ∨ C.F i ∨ live C i) ⟨[], C.m, C.H, C.F⟩ args' rfl (hK0 C.F (fun _ h => h) fun _ h => .inl h) (p1 rfl)
      have hF : ∀ i, (F1 i ∨ live ⟨L1, m1, H1, F1⟩ i) → C.F i ∨ ¬ (K i ∨ C.F i ∨ live C i) := fun i hi => by
        rcases hi with hi | ⟨k, B, hk, hr, rfl⟩
        · exact st.fresh i hi
        · exact .inr (st.inv.sep k B hk hr).1
      refine ⟨v', C.m, H1, fun i => F1 i ∨ live ⟨L1, m1, H1, F1⟩ i, e1, back C.L C.F m1 H1 F1 _ (fun _ _ h => h) rfl st (fun i hi => .inl (st.ext.frz i hi).1) (fun k B hk hr hf => ?_) (fun i hi => ?_) fun j hj => ?_, ?_⟩
      · rcases hF _ hf with h1 | h1
        · exact (hI.sep k B hk hr).2 h1
        · exact h1 (.inr (.inr ⟨k, B, hk, hr, rfl⟩))
      · rcases hF _ hi with h1 | h1
        · exact .inl h1
        · exact .inr fun hk => h1 (.inl hk)
      · rcases hj with hj | hj
        · exact st.inv.lt j (.inr hj)
        · exact st.inv.live_lt hj
      · exact frz_ok (C := ⟨L1, m1, H1, F1⟩) st.inv (fun i hi => .inl hi) (fun k B _ hk hr => .inr ⟨k, B, hk, hr, rfl⟩) C.L C.m hfr hv
    | true =>
      by_cases hat : atomic v = true
      · obtain ⟨v', m1, H1, F1, e1, st, hv⟩ := (hc _ _ _ _ _ _ hcall).1 (fun i => K i ∨ C.F i ∨ live C i) ⟨[], C.m, C.H, fun i => C.F i ∨ live C i⟩ args' rfl (hK0 _ (fun _ h => .inl h) fun _ h => h) (p2 _ (fun _ h => .inl h) fun k _ _ _ _ B _ hB hr => .inr ⟨k, B, hB, hr, rfl⟩)
        rw [if_neg (by simp [hat])]
        refine ⟨v', C.m, H1, C.F, e1, back C.L _ m1 H1 F1 _ (fun _ _ h => h) rfl st (fun i hi => hi) (fun k B hk hr => (hI.sep k B hk hr).2) (fun i hi => .inl hi) fun j hj => Nat.lt_of_lt_of_le (hI.lt j (.inr hj)) st.next, ?_⟩
        exact atomic_chg hat (frz_ok (C := ⟨L1, m1, H1, F1⟩) st.inv (F' := fun i => F1 i ∨ live ⟨L1, m1, H1, F1⟩ i) (fun i hi => .inl hi) (fun k B _ hk hr => .inr ⟨k, B, hk, hr, rfl⟩) C.L C.m hfr hv)
      · -- what was given away is kept as it is
        have hnl : ∀ i, (∃ k off len cap t B, .slc (.n k) off len cap t ∈ args ∧ hget C.L k = some B ∧ real B = true ∧ i = C.m k) → live C i := fun i ⟨k, _, _, _, _, B, _, h2, h3, h4⟩ => ⟨k, B, h2, h3, h4⟩
        obtain ⟨v', m1, H1, F1, e1, st, hv⟩ := (hc _ _ _ _ _ _ hcall).1 (fun i => K i ∨ C.F i ∨ live C i) ⟨[], C.m, C.H, fun i => C.F i ∨ ∃ k off len cap t B, .slc (.n k) off len cap t ∈ args ∧ hget C.L k = some B ∧ real B = true ∧ i = C.m k⟩ args' rfl
          (hK0 _ (fun _ h => .inl h) fun i h => h.imp id (hnl i)) (p2 _ (fun _ h => .inl h) fun k off len cap t B h1 h2 h3 => .inr ⟨k, off, len, cap, t, B, h1, h2, h3, rfl⟩)
        rw [if_pos (by simp [hat])]
        have hF : ∀ i, (F1 i ∨ live ⟨L1, m1, H1, F1⟩ i) → (C.F i ∨ ∃ k off len cap t B, .slc (.n k) off len cap t ∈ args ∧ hget C.L k = some B ∧ real B = true ∧ i = C.m k) ∨ ¬ (K i ∨ C.F i ∨ live C i) := fun i hi => by
          rcases hi with hi | ⟨k, B, hk, hr, rfl⟩
          · exact st.fresh i hi
          · exact .inr (st.inv.sep k B hk hr).1
        refine ⟨v', C.m, H1, fun i => F1 i ∨ live ⟨L1, m1, H1, F1⟩ i, e1, back (spent args C.L) _ m1 H1 F1 _ (fun k B h => (hget_spent h).1) (length_spent _ _) st (fun i hi => .inl (st.ext.frz i (.inl hi)).1) (fun k B hk hr hf => ?_) (fun i hi => ?_) fun j hj => ?_, ?_⟩
        · obtain ⟨hk1, hk2⟩ := hget_spent hk
          rcases hF _ hf with (h1 | ⟨k', off, len, cap, t, B', h1, h2, h3, h4⟩) | h1
          · exact (hI.sep k B hk1 hr).2 h1
          · have := hI.inj k k' B B' hk1 h2 hr h3 h4
            subst this
            exact hk2 _ _ _ _ h1
          · exact h1 (.inr (.inr ⟨k, B, hk1, hr, rfl⟩))
        · rcases hF _ hi with (h1 | ⟨k', off, len, cap, t, B', h1, h2, h3, h4⟩) | h1
          · exact .inl h1
          · rw [h4]; exact .inr (hI.sep k' B' h2 h3).1
          · exact .inr fun hk => h1 (.inl hk)
        · rcases hj with hj | hj
          · exact st.inv.lt j (.inr hj)
          · exact st.inv.live_lt hj
        · exact frz_ok (C := ⟨L1, m1, H1, F1⟩) st.inv (fun i hi => .inl hi) (fun k B _ hk hr => .inr ⟨k, B, hk, hr, rfl⟩) (spent args C.L) C.m hfr hv
  · -- in a frame
    split at h
    case h_2 => cases h
    rename_i v1 L1 hcall
    split at h
    case h_2 => cases h
    rename_i d hfr
    cases h
    obtain ⟨hc1, hc2⟩ := hc _ _ _ _ _ _ hcall
    refine ⟨fun K C args' hL hI hargs => ?_, fun n hn hb => ?_⟩
    · subst hL
      obtain ⟨v', m1, H1, F1, e1, st, hv⟩ := hc1 K C args' rfl hI hargs
      have hbel := hc2 C.L.length (Nat.le_refl _) hI.bel
      have hll : (L1.take C.L.length).length = C.L.length := by rw [List.length_take]; exact Nat.min_eq_left hbel.1
      have hg : ∀ k B, hget (L1.take C.L.length) k = some B → k < C.L.length ∧ hget L1 k = some B := by
        intro k B hk
        rw [hget_take] at hk
        split at hk
        · rename_i hlt; exact ⟨hlt, hk⟩
        · cases hk
      have hF : ∀ i, F1 i → (F1 i ∨ ∃ k B, C.L.length ≤ k ∧ hget L1 k = some B ∧ real B = true ∧ i = m1 k) := fun i hi => .inl hi
      have chgF : ∀ i, (⟨L1, m1, H1, F1⟩ : Ctx).F i → (⟨L1.take C.L.length, m1, H1, fun i => F1 i ∨ ∃ k B, C.L.length ≤ k ∧ hget L1 k = some B ∧ real B = true ∧ i = m1 k⟩ : Ctx).F i ∧ (⟨L1.take C.L.length, m1, H1, fun i => F1 i ∨ ∃ k B, C.L.length ≤ k ∧ hget L1 k = some B ∧ real B = true ∧ i = m1 k⟩ : Ctx).H.get i = (⟨L1, m1, H1, F1⟩ : Ctx).H.get i := fun i hi => ⟨.inl hi, rfl⟩
      have chgL : ∀ k, k < C.L.length → k < (⟨L1, m1, H1, F1⟩ : Ctx).L.length → k < (⟨L1.take C.L.length, m1, H1, fun i => F1 i ∨ ∃ k B, C.L.length ≤ k ∧ hget L1 k = some B ∧ real B = true ∧ i = m1 k⟩ : Ctx).L.length ∧ ∀ B, hget (⟨L1.take C.L.length, m1, H1, fun i => F1 i ∨ ∃ k B, C.L.length ≤ k ∧ hget L1 k = some B ∧ real B = true ∧ i = m1 k⟩ : Ctx).L k = some B → ∃ A, hget (⟨L1, m1, H1, F1⟩ : Ctx).L k = some A ∧ Compat ((⟨L1, m1, H1, F1⟩ : Ctx).m k) ((⟨L1.take C.L.length, m1, H1, fun i => F1 i ∨ ∃ k B, C.L.length ≤ k ∧ hget L1 k = some B ∧ real B = true ∧ i = m1 k⟩ : Ctx).m k) A B :=
        fun k hk _ => ⟨by show k < (L1.take C.L.length).length; omega, fun B hB => ⟨B, (hg k B hB).2, Compat.refl _ _⟩⟩
      refine ⟨v', m1, H1, fun i => F1 i ∨ ∃ k B, C.L.length ≤ k ∧ hget L1 k = some B ∧ real B = true ∧ i = m1 k, e1, ⟨⟨fun k B hk => ?_, fun k B hk hr => ?_, fun j k A B hj hk hrj hrk e => ?_, fun k B hk hr => ?_, fun j hj => ?_, fun g cs hgl => ?_⟩, ⟨?_, fun i hi => ⟨.inl (st.ext.frz i hi).1, (st.ext.frz i hi).2⟩, fun k B hk hB => ?_⟩, st.keep, fun i hi => ?_, st.next⟩, ?_⟩
      · obtain ⟨hlt, hk1⟩ := hg k B hk
        have hb := st.inv.blk k B hk1
        have hbl := hbel.2 k B hlt hk1
        cases B with
        | cells cs =>
          obtain ⟨cs', s, h1, h2⟩ := hb
          exact ⟨cs', s, h1, DVs.chg chgF chgL hbl h2⟩
        | rows e rs g =>
          refine ⟨hb.1, fun hr => ?_⟩
          obtain ⟨cs', h1, h2⟩ := hb.2 hr
          refine ⟨cs', h1, DVr_iff.2 (DVs.chg chgF chgL ?_ (DVr_iff.1 h2))⟩
          rw [belows_iff]
          intro v hv
          obtain ⟨l, hl, hv⟩ := List.mem_flatten.1 hv
          exact belows_iff.1 (hbl l hl) v hv
        | map es c =>
          obtain ⟨es', h1, h2, h3, h4⟩ := hb
          refine ⟨es', h1, h2, DVs.chg chgF chgL ?_ h3, DVs.chg chgF chgL ?_ h4⟩
          · rw [belows_iff]
            intro v hv
            obtain ⟨e, he, rfl⟩ := List.mem_map.1 hv
            exact (hbl e he).1
          · rw [belows_iff]
            intro v hv
            obtain ⟨e, he, rfl⟩ := List.mem_map.1 hv
            exact (hbl e he).2
      · exact st.inv.new k B (hg k B hk).2 hr
      · exact st.inv.inj j k A B (hg j A hj).2 (hg k B hk).2 hrj hrk e
      · obtain ⟨hlt, hk1⟩ := hg k B hk
        refine ⟨(st.inv.sep k B hk1 hr).1, fun hf => ?_⟩
        rcases hf with hf | ⟨k', B', hle, hk', hr', e⟩
        · exact (st.inv.sep k B hk1 hr).2 hf
        · have := st.inv.inj k k' B B' hk1 hk' hr hr' e
          omega
      · rcases hj with hj | hj | ⟨k', B', hle, hk', hr', e⟩
        · exact st.inv.lt j (.inl hj)
        · exact st.inv.lt j (.inr hj)
        · exact st.inv.live_lt ⟨k', B', hk', hr', e⟩
      · obtain ⟨h1, h0, cs', s, h2, h3⟩ := st.inv.glob g cs hgl
        exact ⟨h1, h0, cs', s, h2, DVs.chg (C := ⟨L1, m1, H1, F1⟩) (n := 0) chgF (fun k hk => by omega) h0 h3⟩
      · show C.L.length ≤ (L1.take C.L.length).length
        omega
      · obtain ⟨hlt, hk1⟩ := hg k B hB
        exact st.ext.blk k B hk hk1
      · rcases hi with hi | ⟨k', B', hle, hk', hr', e⟩
        · exact st.fresh i hi
        · rw [e]; exact .inr (st.inv.sep k' B' hk' hr').1
      · exact frz_ok (C := ⟨L1, m1, H1, F1⟩) st.inv (fun i hi => .inl hi) (fun k B hle hk hr => .inr ⟨k, B, hle, hk, hr, rfl⟩) (L1.take C.L.length) m1 hfr hv
    · have hb1 := hc2 n hb.1 hb
      refine ⟨by rw [List.length_take]; have := hb.1; have := hb1.1; omega, fun k B hk hB => ?_⟩
      rw [hget_take] at hB
      split at hB
      · exact hb1.2 k B hk hB
      · cases hB
  · exact hc fl g args L v L' h

/-! ### rows of operations -/
theorem DV.notbool {C : Ctx} {a b : AV} (h : DV C a b) : (∀ c, b = .bool c → a = .bool c) ∧ b ≠ .junk := by
  cases a with
  | bool x => cases h; exact ⟨fun c hc => hc, fun h => (nomatch h)⟩
  | agg cs => obtain ⟨cs', rfl, hy⟩ := h; exact ⟨fun c hc => (nomatch hc), fun h => (nomatch h)⟩
  | junk => exact h.elim
  | tuple cs => obtain ⟨cs', rfl, hy⟩ := h; exact ⟨fun c hc => (nomatch hc), fun h => (nomatch h)⟩
  | int k n => cases h; exact ⟨fun c hc => (nomatch hc), fun h => (nomatch h)⟩
  | str s => cases h; exact ⟨fun c hc => (nomatch hc), fun h => (nomatch h)⟩
  | nilptr => cases h; exact ⟨fun c hc => (nomatch hc), fun h => (nomatch h)⟩
  | nilmap => cases h; exact ⟨fun c hc => (nomatch hc), fun h => (nomatch h)⟩
  | nilfunc => cases h; exact ⟨fun c hc => (nomatch hc), fun h => (nomatch h)⟩
  | niliface => cases h; exact ⟨fun c hc => (nomatch hc), fun h => (nomatch h)⟩
  | nilslc => rcases h with rfl | ⟨i, off, rfl⟩ <;> exact ⟨fun c hc => (nomatch hc), fun h => (nomatch h)⟩
  | ptr i o =>
    cases i with
    | n k => obtain ⟨_, i, p, rfl, _⟩ := h; exact ⟨fun c hc => (nomatch hc), fun h => (nomatch h)⟩
    | o g => cases h; exact ⟨fun c hc => (nomatch hc), fun h => (nomatch h)⟩
  | fptr cs o => obtain ⟨i, p, cs', rfl, _⟩ := h; exact ⟨fun c hc => (nomatch hc), fun h => (nomatch h)⟩
  | eptr k v r o => obtain ⟨_, i, p, rfl, _⟩ := h; exact ⟨fun c hc => (nomatch hc), fun h => (nomatch h)⟩
  | slc i off len cap t =>
    cases i with
    | n k =>
      obtain ⟨_, hs, _⟩ := h
      refine ⟨fun c hc => ?_, fun h => ?_⟩
      · subst hc; exact hs.elim
      · subst h; exact hs.elim
    | o g => exact h.elim
  | lst rs => obtain ⟨_, ⟨_, rfl | ⟨_, _, _, _, rfl⟩⟩ | ⟨_, _, _, _, _, _, rfl, _⟩⟩ := h <;> exact ⟨fun c hc => (nomatch hc), fun h => (nomatch h)⟩
  | map i =>
    cases i with
    | n k => obtain ⟨_, i, rfl, _⟩ := h; exact ⟨fun c hc => (nomatch hc), fun h => (nomatch h)⟩
    | o g => exact h.elim
  | func f x y => obtain ⟨a', b', rfl, _⟩ := h; exact ⟨fun c hc => (nomatch hc), fun h => (nomatch h)⟩
  | iface t x => obtain ⟨y, rfl, _⟩ := h; exact ⟨fun c hc => (nomatch hc), fun h => (nomatch h)⟩
theorem wantedD_ok {C : Ctx} {T T' : Trie AV} (h : DT C T T') {g : Option (Nat × Bool)} {b : Bool} (hw : wanted T g = some b) : wanted T' g = some b := by
  cases g with
  | none => exact hw
  | some p =>
    obtain ⟨t, c⟩ := p
    have ht := h t
    simp only [wanted] at hw ⊢
    split at hw
    · rename_i x hx
      rw [hx] at ht
      have ht : St.get T' t = _ := ht
      rw [ht]
      exact hw
    · cases hw
    · rename_i h1 h2
      obtain ⟨n1, n2⟩ := ht.notbool
      split
      · rename_i y hy
        exact absurd (n1 y hy) (h1 y)
      · rename_i hj; exact absurd hj n2
      · exact hw

/-- Two states of a function. -/
structure SD (K : Id → Prop) (E : DEnv) (C : Ctx) (s : DSt) (a : St) : Prop where
  L : C.L = s.L
  H : C.H = a.H
  T : DT C s.T a.T
  inv : Inv K E.glob C
theorem SD.step {K : Id → Prop} {C D : Ctx} {T T' : Trie AV} (h : DT C T T') (st : Stp K E.glob C D) : SD K E D ⟨T, D.L⟩ ⟨T', D.H⟩ := ⟨rfl, rfl, h.ext st.ext, st.inv⟩
theorem SD.put {K : Id → Prop} {C : Ctx} {s : DSt} {a : St} (h : SD K E C s a) (d : Option Nat) {v v' : AV} (hv : DV C v v') : SD K E C (s.put d v) (a.put d v') := by
  cases d with
  | none => exact h
  | some d => exact ⟨h.L, h.H, h.T.put hv d, h.inv⟩

theorem opDC_ok (hc : CallOkD E call callA) {K : Id → Prop} {C : Ctx} {T T' : Trie AV} (hI : Inv K E.glob C) (hT : DT C T T') {fl : Nat} {o : AOp} (hk : okOp o = true) {v : AV} {L' : DHeap} (h : opDC E call fl o T C.L = some (v, L')) :
    ∃ v' m' H' F', opC callA o T' C.H = some (v', H') ∧ Stp K E.glob C ⟨L', m', H', F'⟩ ∧ DV ⟨L', m', H', F'⟩ v v' := by
  have plain : opD E fl o T C.L = some (v, L') → opC callA o T' C.H = opF o T' C.H → ∃ v' m' H' F', opC callA o T' C.H = some (v', H') ∧ Stp K E.glob C ⟨L', m', H', F'⟩ ∧ DV ⟨L', m', H', F'⟩ v v' := by
    intro h1 h2
    obtain ⟨v', m', H', e1, e2, e3⟩ := opD_ok hI hT hk h1
    exact ⟨v', m', H', C.F, h2.trans e1, e2, e3⟩
  cases o with
  | call f args =>
    simp only [okOp, Bool.and_eq_true] at hk
    simp only [opDC] at h
    split at h
    case h_2 => cases h
    rename_i g a b hf
    have hfv := ev_ok hT hk.1
    rw [hf] at hfv
    obtain ⟨a', b', e, ha, hb⟩ := hfv
    obtain ⟨v', m', H', F', e1, e2, e3⟩ := (callM_ok hc _ _ _ _ _ _ h).1 K C (a' ++ args.map (ev T') ++ b') rfl hI ((ha.append (evs_ok hT hk.2)).append hb)
    exact ⟨v', m', H', F', by simp only [opC, e]; exact e1, e2, e3⟩
  | _ => exact plain h rfl
theorem runOpD_ok (hc : CallOkD E call callA) {K : Id → Prop} {C : Ctx} {s : DSt} {a : St} (hS : SD K E C s a) {fl : Nat} {o : AOper} (hk : okOp o.op = true) {s' : DSt} (h : runOpD E call fl o s = some s') :
    ∃ D a', runOp callA o a = some a' ∧ Stp K E.glob C D ∧ SD K E D s' a' := by
  obtain ⟨hL, hH, hT, hI⟩ := hS
  unfold runOpD at h
  unfold runOp
  split at h
  · rename_i hw
    rw [wantedD_ok hT hw]
    split at h
    · rename_i v L' ho
      cases h
      rw [← hL] at ho
      obtain ⟨v', m', H', F', e1, e2, e3⟩ := opDC_ok hc hI hT hk ho
      rw [hH] at e1
      simp only [e1]
      exact ⟨_, _, rfl, e2, SD.put (s := ⟨s.T, L'⟩) (a := ⟨a.T, H'⟩) ⟨rfl, rfl, hT.ext e2.ext, e2.inv⟩ _ e3⟩
    · cases h
  · rename_i hw
    rw [wantedD_ok hT hw]
    cases h
    exact ⟨C, _, rfl, Stp.refl hI, SD.put ⟨hL, hH, hT, hI⟩ _ ⟨[], rfl, rfl⟩⟩
  · cases h
theorem runOpsL_ok (hc : CallOkD E call callA) {K : Id → Prop} {fl : Nat} : ∀ {ops : List AOper} {C : Ctx} {s : DSt} {a : St} {s' : DSt}, SD K E C s a → (ops.all fun o => okOp o.op) = true → runOpsL E call fl ops s = some s' →
    ∃ D a', runOps callA ops a = some a' ∧ Stp K E.glob C D ∧ SD K E D s' a'
  | [], C, s, a, s', hS, _, h => by cases h; exact ⟨C, a, rfl, Stp.refl hS.inv, hS⟩
  | o :: r, C, s, a, s', hS, hk, h => by
    rw [List.all_cons, Bool.and_eq_true] at hk
    simp only [runOpsL] at h
    split at h
    · rename_i s1 h1
      obtain ⟨D, a1, e1, e2, e3⟩ := runOpD_ok hc hS hk.1 h1
      obtain ⟨D2, a2, f1, f2, f3⟩ := runOpsL_ok hc e3 hk.2 h
      exact ⟨D2, a2, by simp only [runOps, e1, f1], e2.trans f2, f3⟩
    · cases h

/-! ### reads that are looked at again -/
 mutual
theorem atomic_eq {C : Ctx} : ∀ {a b : AV}, atomic a = true → DV C a b → b = a
  | .bool _, _, _, r => r
  | .int _ _, _, _, r => r
  | .str _, _, _, r => r
  | .nilptr, _, _, r => r
  | .nilmap, _, _, r => r
  | .nilfunc, _, _, r => r
  | .niliface, _, _, r => r
  | .func f x y, b, h, r => by
    have h : (atomics x && atomics y) = true := h
    rw [Bool.and_eq_true] at h
    obtain ⟨a', b', e, h1, h2⟩ := r
    rw [e, atomics_eq h.1 h1, atomics_eq h.2 h2]
  | .iface t x, b, h, r => by
    obtain ⟨y, e, h1⟩ := r
    rw [e, atomic_eq (a := x) h h1]
  | .agg cs, b, h, r => by
    obtain ⟨y, e, h1⟩ := r
    rw [e, atomics_eq (as := cs) h h1]
  | .tuple cs, b, h, r => by
    obtain ⟨y, e, h1⟩ := r
    rw [e, atomics_eq (as := cs) h h1]
  | .lst _, _, h, _ => by cases h
  | .nilslc, _, h, _ => by cases h
  | .ptr _ _, _, h, _ => by cases h
  | .slc _ _ _ _ _, _, h, _ => by cases h
  | .map _, _, h, _ => by cases h
  | .fptr _ _, _, h, _ => by cases h
  | .eptr _ _ _ _, _, h, _ => by cases h
  | .junk, _, h, _ => by cases h
 termination_by structural x => x
theorem atomics_eq {C : Ctx} : ∀ {as bs : List AV}, atomics as = true → DVs C as bs → bs = as
  | [], _, _, r => r
  | v :: l, _, h, r => by
    have h : (atomic v && atomics l) = true := h
    rw [Bool.and_eq_true] at h
    obtain ⟨b, bs, e, h1, h2⟩ := r
    rw [e, atomic_eq h.1 h1, atomics_eq h.2 h2]
 termination_by structural x => x
end
 mutual
theorem atomic_same : ∀ {a : AV}, atomic a = true → AV.same a a = true
  | .bool b, _ => by cases b <;> rfl
  | .int _ _, _ => by simp [AV.same]
  | .str _, _ => by simp [AV.same]
  | .nilptr, _ => rfl
  | .nilmap, _ => rfl
  | .nilfunc, _ => rfl
  | .niliface, _ => rfl
  | .func f x y, h => by
    have h : (atomics x && atomics y) = true := h
    rw [Bool.and_eq_true] at h
    simp [AV.same, atomics_same h.1, atomics_same h.2]
  | .iface t x, h => by
    have := atomic_same (a := x) h
    simp [AV.same, this]
  | .agg cs, h => by
    have := atomics_same (as := cs) h
    simp [AV.same, this]
  | .tuple cs, h => by
    have := atomics_same (as := cs) h
    simp [AV.same, this]
  | .lst _, h => by cases h
  | .nilslc, h => by cases h
  | .ptr _ _, h => by cases h
  | .slc _ _ _ _ _, h => by cases h
  | .map _, h => by cases h
  | .fptr _ _, h => by cases h
  | .eptr _ _ _ _, h => by cases h
  | .junk, h => by cases h
 termination_by structural x => x
theorem atomics_same : ∀ {as : List AV}, atomics as = true → AV.sames as as = true
  | [], _ => rfl
  | v :: l, h => by
    have h : (atomic v && atomics l) = true := h
    rw [Bool.and_eq_true] at h
    simp [AV.sames, atomic_same h.1, atomics_same h.2]
 termination_by structural x => x
end
theorem det_ok {C : Ctx} {v a b : AV} (hd : det C.L v = true) (ha : DV C v a) (hb : DV C v b) : AV.same a b = true := by
  have at' : atomic v = true → AV.same a b = true := fun h => by
    rw [atomic_eq h ha, atomic_eq h hb]
    exact atomic_same h
  cases v with
  | bool _ => exact at' rfl
  | int _ _ => exact at' rfl
  | str _ => exact at' rfl
  | nilptr => exact at' rfl
  | nilmap => exact at' rfl
  | nilfunc => exact at' rfl
  | niliface => exact at' rfl
  | agg cs => exact at' hd
  | iface t x => exact at' hd
  | ptr i o =>
    cases i with
    | o g => cases hd
    | n k =>
      simp only [det] at hd
      split at hd
      · rename_i cs hcs
        obtain ⟨_, i, p, rfl, h1⟩ := ha
        obtain ⟨_, i', p', rfl, h2⟩ := hb
        obtain ⟨rfl, rfl⟩ := h1 _ hcs
        obtain ⟨e1, e2⟩ := h2 _ hcs
        rw [e1, e2]
        simp [AV.same]
      · cases hd
  | slc i off len cap t =>
    cases i with
    | o g => cases hd
    | n k =>
      simp only [det] at hd
      split at hd
      · rename_i e rs g hB
        obtain ⟨_, _, h1⟩ := ha
        obtain ⟨_, _, h2⟩ := hb
        rw [Bool.and_eq_true] at hd
        have h1 := (h1 _ _ _ hB).2 hd.1
        have h2 := (h2 _ _ _ hB).2 hd.1
        have hn : ¬ (g = true ∧ rs = []) := by
          rintro ⟨hg, hr⟩
          have := hd.2
          rw [hg, hr] at this
          cases this
        rw [if_neg hn] at h1 h2
        rw [h1, h2]
        simp [AV.same]
      · cases hd
  | eptr k ver row o =>
    simp only [det] at hd
    split at hd
    · rename_i e rs g hB
      obtain ⟨_, i, p, rfl, h1⟩ := ha
      obtain ⟨_, i', p', rfl, h2⟩ := hb
      have hv := Nat.eq_of_beq_eq_true hd
      obtain ⟨rfl, rfl⟩ := (h1 _ _ _ hB).2 hv
      obtain ⟨e1, e2⟩ := (h2 _ _ _ hB).2 hv
      rw [e1, e2]
      simp [AV.same]
    · cases hd
  | map i =>
    cases i with
    | o g => cases hd
    | n k =>
      simp only [det] at hd
      split at hd
      · rename_i es c hB
        obtain ⟨_, i, rfl, h1⟩ := ha
        obtain ⟨_, i', rfl, h2⟩ := hb
        rw [h1 _ _ hB, h2 _ _ hB]
        simp [AV.same]
      · cases hd
  | _ => cases hd
theorem readsD_ok {K : Id → Prop} {C : Ctx} {s : DSt} {a : St} (hS : SD K E C s a) {fl : Nat} {o : AOper} (hk : okOp o.op = true) (h : readsD E fl s o = true) : reads a o = true := by
  obtain ⟨hL, hH, hT, hI⟩ := hS
  unfold readsD at h
  unfold reads
  split at h
  · rename_i hw
    rw [wantedD_ok hT hw]
    split at h
    · rename_i v L2 d ho hd
      rw [Bool.and_eq_true] at h
      obtain ⟨h1, h2⟩ := h
      rw [← hL] at ho
      obtain ⟨v', m', H', e1, e2, e3⟩ := opD_ok hI hT hk ho
      rw [hH] at e1
      simp only [e1, hd]
      have he := same_eq h1
      have e4 := (hT d).ext e2.ext
      rw [← he] at e4
      exact det_ok h2 e3 e4
    · cases h
  · rename_i hw
    rw [wantedD_ok hT hw]
  · cases h
theorem runOpsLD_ok (hc : CallOkD E call callA) {K : Id → Prop} {fl : Nat} : ∀ {ops : List DOper} {C : Ctx} {s : DSt} {a : St} {s' : DSt}, SD K E C s a → (ops.all fun d => okOp d.o.op && d.re.all fun o => okOp o.op) = true → runOpsLD E call fl ops s = some s' →
    ∃ D a', runOpsD callA ops a = some a' ∧ Stp K E.glob C D ∧ SD K E D s' a'
  | [], C, s, a, s', hS, _, h => by cases h; exact ⟨C, a, rfl, Stp.refl hS.inv, hS⟩
  | d :: r, C, s, a, s', hS, hk, h => by
    rw [List.all_cons, Bool.and_eq_true, Bool.and_eq_true] at hk
    simp only [runOpsLD] at h
    split at h
    · rename_i s1 h1
      split at h
      · rename_i hre
        obtain ⟨D, a1, e1, e2, e3⟩ := runOpD_ok hc hS hk.1.1 h1
        obtain ⟨D2, a2, f1, f2, f3⟩ := runOpsLD_ok hc e3 hk.2 h
        refine ⟨D2, a2, ?_, e2.trans f2, f3⟩
        simp only [runOpsD, e1]
        rw [if_pos, f1]
        rw [List.all_eq_true] at hre ⊢
        have hk2 := hk.1.2
        rw [List.all_eq_true] at hk2
        exact fun o ho => readsD_ok e3 (hk2 o ho) (hre o ho)
      · cases h
    · cases h

/-! ### code -/
theorem loopD_ok {K : Id → Prop} {f : DSt → Option (Out × DSt)} {g : St → Option (Out × St)}
    (hf : ∀ C s a o s', SD K E C s a → f s = some (o, s') → ∃ D a', g a = some (o, a') ∧ Stp K E.glob C D ∧ SD K E D s' a') : ∀ (n : Nat) {C : Ctx} {s : DSt} {a : St} {o : Out} {s' : DSt}, SD K E C s a → loopD f n s = some (o, s') →
    ∃ D a', loopN g n a = some (o, a') ∧ Stp K E.glob C D ∧ SD K E D s' a'
  | 0, C, s, a, o, s', _, h => by cases h
  | n + 1, C, s, a, o, s', hS, h => by
    simp only [loopD] at h
    split at h
    · rename_i s1 h1
      obtain ⟨D, a1, e1, e2, e3⟩ := hf C s a _ _ hS h1
      obtain ⟨D2, a2, f1, f2, f3⟩ := loopD_ok hf n e3 h
      exact ⟨D2, a2, by simp only [loopN, e1, f1], e2.trans f2, f3⟩
    · rename_i hn
      obtain ⟨D, a1, e1, e2, e3⟩ := hf C s a _ _ hS h
      refine ⟨D, a1, ?_, e2, e3⟩
      simp only [loopN, e1]
      cases o with
      | normal => exact absurd h (hn s')
      | exit _ => rfl
      | ret => rfl
theorem runCD_ok (hc : CallOkD E call callA) {K : Id → Prop} {fl n : Nat} : ∀ {c : ACode} {C : Ctx} {s : DSt} {a : St} {o : Out} {s' : DSt}, okC c = true → SD K E C s a → runCD E call fl n c s = some (o, s') →
    ∃ D a', runC callA n c a = some (o, a') ∧ Stp K E.glob C D ∧ SD K E D s' a' := by
  intro c
  induction c with
  | skip => intro C s a o s' _ hS h; cases h; exact ⟨C, a, rfl, Stp.refl hS.inv, hS⟩
  | exit id => intro C s a o s' _ hS h; cases h; exact ⟨C, a, rfl, Stp.refl hS.inv, hS⟩
  | ret => intro C s a o s' _ hS h; cases h; exact ⟨C, a, rfl, Stp.refl hS.inv, hS⟩
  | bad => intro C s a o s' _ hS h; cases h
  | region ops =>
    intro C s a o s' hk hS h
    simp only [runCD, Option.map_eq_some_iff] at h
    obtain ⟨s1, h1, e⟩ := h
    cases e
    obtain ⟨D, a1, e1, e2, e3⟩ := runOpsL_ok hc hS hk h1
    exact ⟨D, a1, by simp only [runC, e1, Option.map_some], e2, e3⟩
  | regionD ops =>
    intro C s a o s' hk hS h
    simp only [runCD, Option.map_eq_some_iff] at h
    obtain ⟨s1, h1, e⟩ := h
    cases e
    obtain ⟨D, a1, e1, e2, e3⟩ := runOpsLD_ok hc hS hk h1
    exact ⟨D, a1, by simp only [runC, e1, Option.map_some], e2, e3⟩
  | seq x y ihx ihy =>
    intro C s a o s' hk hS h
    simp only [okC, Bool.and_eq_true] at hk
    simp only [runCD] at h
    split at h
    · rename_i s1 h1
      obtain ⟨D, a1, e1, e2, e3⟩ := ihx hk.1 hS h1
      obtain ⟨D2, a2, f1, f2, f3⟩ := ihy hk.2 e3 h
      exact ⟨D2, a2, by simp only [runC, e1, f1], e2.trans f2, f3⟩
    · rename_i hn
      obtain ⟨D, a1, e1, e2, e3⟩ := ihx hk.1 hS h
      refine ⟨D, a1, ?_, e2, e3⟩
      simp only [runC, e1]
      cases o with
      | normal => exact absurd h (hn s')
      | exit _ => rfl
      | ret => rfl
  | cond c x y ihx ihy =>
    intro C s a o s' hk hS h
    simp only [okC, Bool.and_eq_true] at hk
    simp only [runCD] at h
    have hv := ev_ok hS.T hk.1.1
    split at h
    · rename_i hb
      rw [hb] at hv
      have hv : ev a.T c = _ := hv
      obtain ⟨D, a1, e1, e2, e3⟩ := ihx hk.1.2 hS h
      exact ⟨D, a1, by simp only [runC, hv]; exact e1, e2, e3⟩
    · rename_i hb
      rw [hb] at hv
      have hv : ev a.T c = _ := hv
      obtain ⟨D, a1, e1, e2, e3⟩ := ihy hk.2 hS h
      exact ⟨D, a1, by simp only [runC, hv]; exact e1, e2, e3⟩
    · cases h
  | block id b ih =>
    intro C s a o s' hk hS h
    simp only [runCD] at h
    split at h
    · rename_i i s1 h1
      cases h
      obtain ⟨D, a1, e1, e2, e3⟩ := ih hk hS h1
      exact ⟨D, a1, by simp only [runC, e1], e2, e3⟩
    · rename_i hn
      obtain ⟨D, a1, e1, e2, e3⟩ := ih hk hS h
      refine ⟨D, a1, ?_, e2, e3⟩
      simp only [runC, e1]
      cases o with
      | normal => rfl
      | exit i => exact absurd h (hn i s')
      | ret => rfl
  | loop b ih =>
    intro C s a o s' hk hS h
    simp only [runCD] at h
    obtain ⟨D, a1, e1, e2, e3⟩ := loopD_ok (g := runC callA n b) (fun C s a o s' hS h => ih hk hS h) n hS h
    exact ⟨D, a1, by simp only [runC]; exact e1, e2, e3⟩

/-! ### the floor -/
theorem runOpD_bel (hc : CallOkD E call callA) {fl m : Nat} (hf : m ≤ fl) {o : AOper} {s s' : DSt} (hb : Bel m s.L) (h : runOpD E call fl o s = some s') : Bel m s'.L := by
  unfold runOpD at h
  have putL : ∀ (s : DSt) d v, (DSt.put s d v).L = s.L := by intro s d v; cases d <;> rfl
  split at h
  · split at h
    · rename_i v L' ho
      cases h
      rw [putL]
      show Bel m L'
      have key : ∀ op, opDC E call fl op s.T s.L = some (v, L') → (∃ f args, op = .call f args) ∨ opD E fl op s.T s.L = some (v, L') := by
        intro op h
        cases op with
        | call f args => exact .inl ⟨f, args, rfl⟩
        | _ => exact .inr h
      rcases key _ ho with ⟨f, args, hop⟩ | ho
      · rw [hop] at ho
        simp only [opDC] at ho
        split at ho
        case h_2 => cases ho
        exact (callM_ok hc _ _ _ _ _ _ ho).2 m hf hb
      · exact opD_bel hf hb ho
    · cases h
  · cases h; rw [putL]; exact hb
  · cases h
theorem runOpsL_bel (hc : CallOkD E call callA) {fl m : Nat} (hf : m ≤ fl) : ∀ {ops : List AOper} {s s' : DSt}, Bel m s.L → runOpsL E call fl ops s = some s' → Bel m s'.L
  | [], s, s', hb, h => by cases h; exact hb
  | o :: r, s, s', hb, h => by
    simp only [runOpsL] at h
    split at h
    · rename_i s1 h1; exact runOpsL_bel hc hf (runOpD_bel hc hf hb h1) h
    · cases h
theorem runOpsLD_bel (hc : CallOkD E call callA) {fl m : Nat} (hf : m ≤ fl) : ∀ {ops : List DOper} {s s' : DSt}, Bel m s.L → runOpsLD E call fl ops s = some s' → Bel m s'.L
  | [], s, s', hb, h => by cases h; exact hb
  | o :: r, s, s', hb, h => by
    simp only [runOpsLD] at h
    split at h
    · rename_i s1 h1
      split at h
      · exact runOpsLD_bel hc hf (runOpD_bel hc hf hb h1) h
      · cases h
    · cases h
theorem loopD_bel {m : Nat} {f : DSt → Option (Out × DSt)} (hf : ∀ s o s', Bel m s.L → f s = some (o, s') → Bel m s'.L) : ∀ (n : Nat) {s : DSt} {o : Out} {s' : DSt}, Bel m s.L → loopD f n s = some (o, s') → Bel m s'.L
  | 0, s, o, s', _, h => by cases h
  | n + 1, s, o, s', hb, h => by
    simp only [loopD] at h
    split at h
    · rename_i s1 h1; exact loopD_bel hf n (hf _ _ _ hb h1) h
    · exact hf _ _ _ hb h
theorem runCD_bel (hc : CallOkD E call callA) {fl n m : Nat} (hf : m ≤ fl) : ∀ {c : ACode} {s : DSt} {o : Out} {s' : DSt}, Bel m s.L → runCD E call fl n c s = some (o, s') → Bel m s'.L := by
  intro c
  induction c with
  | skip => intro s o s' hb h; cases h; exact hb
  | exit id => intro s o s' hb h; cases h; exact hb
  | ret => intro s o s' hb h; cases h; exact hb
  | bad => intro s o s' hb h; cases h
  | region ops =>
    intro s o s' hb h
    simp only [runCD, Option.map_eq_some_iff] at h
    obtain ⟨s1, h1, e⟩ := h
    cases e
    exact runOpsL_bel hc hf hb h1
  | regionD ops =>
    intro s o s' hb h
    simp only [runCD, Option.map_eq_some_iff] at h
    obtain ⟨s1, h1, e⟩ := h
    cases e
    exact runOpsLD_bel hc hf hb h1
  | seq x y ihx ihy =>
    intro s o s' hb h
    simp only [runCD] at h
    split at h
    · rename_i s1 h1; exact ihy (ihx hb h1) h
    · exact ihx hb h
  | cond c x y ihx ihy =>
    intro s o s' hb h
    simp only [runCD] at h
    split at h
    · exact ihx hb h
    · exact ihy hb h
    · cases h
  | block id b ih =>
    intro s o s' hb h
    simp only [runCD] at h
    split at h
    · rename_i i s1 h1; cases h; exact ih hb h1
    · exact ih hb h
  | loop b ih =>
    intro s o s' hb h
    simp only [runCD] at h
    exact loopD_bel (fun s o s' hb h => ih hb h) n hb h

/-! ### functions -/
def okF (f : AFunc) : Bool := okC f.body
theorem putArgs_DT {C : Ctx} : ∀ {as bs : List AV} (k : Nat) {T T' : Trie AV}, DVs C as bs → DT C T T' → DT C (putArgs as k T) (putArgs bs k T')
  | [], bs, k, T, T', h, hT => by have : bs = [] := h; subst this; exact hT
  | a :: as, bs, k, T, T', h, hT => by
    obtain ⟨b, bs', rfl, h1, h2⟩ := h
    exact putArgs_DT (k + 1) h2 (hT.put h1 k)
theorem DT_leaf (C : Ctx) : DT C .leaf .leaf := fun n => ⟨[], rfl, rfl⟩
theorem resDs_ok {K : Id → Prop} {C : Ctx} {s : DSt} {a : St} (hS : SD K E C s a) : ∀ {l : List RV} {vs : List AV}, resDs E s.T s.L l = some vs → ∃ vs', results a.T a.H l = some vs' ∧ DVs C vs vs'
  | [], vs, h => by cases h; exact ⟨[], rfl, rfl⟩
  | r :: l, vs, h => by
    simp only [resDs] at h
    split at h
    · rename_i v vs1 h1 h2
      cases h
      obtain ⟨vs', e1, e2⟩ := resDs_ok hS h2
      have : ∃ v', result1 a.T a.H r = some v' ∧ DV C v v' := by
        cases r with
        | t n => cases h1; exact ⟨_, rfl, hS.T n⟩
        | ld n p =>
          simp only [resD1] at h1
          rw [← hS.L] at h1
          obtain ⟨v', g1, g2⟩ := loadD_ok hS.inv (hS.T p) h1
          rw [hS.H] at g1
          exact ⟨v', g1, g2⟩
      obtain ⟨v', g1, g2⟩ := this
      exact ⟨v' :: vs', by simp only [results, g1, e1], DVs.cons g2 e2⟩
    · cases h
theorem resD_ok {K : Id → Prop} {C : Ctx} {s : DSt} {a : St} (hS : SD K E C s a) {l : List RV} {v : AV} (h : resD E s.T s.L l = some v) : ∃ v', result a.T a.H l = some v' ∧ DV C v v' := by
  unfold resD at h
  unfold result
  split at h
  · rename_i v0 h1
    cases h
    obtain ⟨vs', e1, e2⟩ := resDs_ok hS h1
    obtain ⟨b, rfl, hb⟩ := DVs.one_iff.1 e2
    exact ⟨b, by simp only [e1], hb⟩
  · rename_i vs hn h1
    cases h
    obtain ⟨vs', e1, e2⟩ := resDs_ok hS h1
    refine ⟨.tuple vs', ?_, vs', rfl, e2⟩
    simp only [e1]
    split
    · rename_i v hv
      cases hv
      exfalso
      have hl := e2.length
      obtain ⟨x, rfl⟩ := List.length_eq_one_iff.1 hl
      exact hn x rfl
    · rename_i hv; cases hv; rfl
    · rename_i hv; cases hv
  · cases h
/-- The code of a function of Go's library that is told as a whole. -/
def primF : Prim → List AV → AFunc
  | .clone esz bytes, z => ⟨8, [(.t 2)],
    (.seq (.region [⟨(some 2), (.mv (.c .nilslc)), none⟩])
    (.seq (.seq (.region [⟨(some 3), (.mv (.t 0)), none⟩, ⟨(some 4), (.cmp false .slc (.t 3) (.c .nilslc)), none⟩])
    (.cond (.t 4) (.seq (.region [⟨(some 2), (.mv (.c .nilslc)), none⟩])
    .ret) .skip))
    (.seq (.region [⟨(some 5), (.bslice esz 0 [] []), none⟩, ⟨(some 6), (.mv (.t 0)), none⟩, ⟨(some 7), (.append esz bytes z (.t 5) (.t 6)), none⟩, ⟨(some 2), (.mv (.t 7)), none⟩])
    .ret)))⟩
theorem primD_ok {K : Id → Prop} {G : Nat → Option (List AV)} {C : Ctx} (hI : Inv K G C) {p : Prim} {z : List AV} {A : Env} {f : FuncId} (hf : A.ft f = some (primF p z)) (hx : A.ext f = none) {args args' : List AV} (ha : DVs C args args') {v : AV} {L' : DHeap} (h : primD p args C.L = some (v, L')) (n : Nat) :
    ∃ v' m' H' F', callN A (n + 1) f args' C.H = some (v', H') ∧ Stp K G C ⟨L', m', H', F'⟩ ∧ DV ⟨L', m', H', F'⟩ v v' := by
  cases p with
  | clone esz bytes =>
    unfold primD at h
    split at h <;> first
      | (cases h; done)
      | skip
    rename_i s xs0 L0 hp
    cases hp
    split at h
    case h_2 => cases h
    rename_i xs hxs
    simp only at h
    split at h
    case isFalse => cases h
    rename_i hc
    simp only [Bool.and_eq_true] at hc
    obtain ⟨hev, hone, hroom⟩ := hc
    cases h
    obtain ⟨s', rfl, hs⟩ := DVs.one_iff.1 ha
    have hev0 := even_unNrm hev
    obtain ⟨r1, r2⟩ := rowsV_ok hI hs hxs hev0
    obtain ⟨nw, r3, r4⟩ := r2 xs.length (Nat.le_refl _)
    rw [List.take_length] at r4
    have hn1 : nw.all AV.one = true := by
      refine r4.oneb ?_
      rw [oneR_iff, flat_nrm, all_nrm] at hone
      exact hone
    have r5 : DVs C (xs.map (·.map nrm)).flatten nw := by rw [flat_nrm]; exact r4.nrm
    have hE := evenB_iff.1 hev
    have hnl : (xs.map (·.map nrm)).length = xs.length := List.length_map _
    obtain ⟨b1, b2⟩ := roomB_iff.1 hroom
    have hnwl : nw.length = xs.length * esz := by rw [← r5.length, flat_length hE, hnl]
    cases s' <;> first
      | (cases r1; done)
      | skip
    · -- nil
      have h0 : xs.length = 0 := by simp [lenOf] at r1; omega
      have hx0 : xs = [] := List.eq_nil_of_length_eq_zero h0
      subst hx0
      refine ⟨.nilslc, C.m, C.H, C.F, ?_, Stp.allocNil hI esz, ?_⟩
      · simp only [callN, hx, hf, primF]
        rfl
      · refine ⟨by simp only [length_halloc]; omega, trivial, fun e rs g h' => ?_⟩
        simp only [hget_halloc, if_true, Option.some.injEq, DBlk.rows.injEq] at h'
        obtain ⟨rfl, h2, rfl⟩ := h'
        subst h2
        exact ⟨Nat.le_refl _, fun _ => by rw [if_pos ⟨rfl, rfl⟩]; exact .inl rfl⟩
    · rename_i i off len cap t
      have hl : len = xs.length := by simp [lenOf] at r1; exact r1
      subst hl
      have g := Stp.garbage hI (.cells [] 0)
      have r3' : rows (C.H.alloc (.cells [] 0)) esz xs.length (.slc i off xs.length cap t) = some nw := by
        simp only [rows] at r3 ⊢
        unfold AHeap.loadN at r3 ⊢
        by_cases hz : xs.length * esz = 0
        · rw [if_pos hz] at r3 ⊢; exact r3
        · rw [if_neg hz] at r3 ⊢
          have : (C.H.alloc (.cells [] 0)).get i = C.H.get i := by
            rw [AHeap.get_alloc, if_neg]
            intro e
            subst e
            cases hg : C.H.get (.n C.H.next) with
            | none => rw [hg] at r3; cases r3
            | some B => have := AHeap.get_lt hg; omega
          rw [this]
          exact r3
      have hrun : ∀ v G, appendOp esz bytes (C.H.alloc (.cells [] 0)) (.slc (.n C.H.next) 0 0 0 false) (.slc i off xs.length cap t) = some (v, G) → callN A (n + 1) f [.slc i off xs.length cap t] C.H = some (v, G) := by
        intro v G hr
        have hb : callN A (n + 1) f [.slc i off xs.length cap t] C.H = (appendOp esz bytes (C.H.alloc (.cells [] 0)) (.slc (.n C.H.next) 0 0 0 false) (.slc i off xs.length cap t)).map fun p => (p.1, p.2) := by
          simp only [callN, hx, hf, primF, runC, runOps, runOp, wanted, opC, opF, ev, St.put, putArgs, cmpOp, Option.map_some, fill, get_put_if, reduceIte, Nat.reduceEqDiff, Bool.false_eq_true]
          cases appendOp esz bytes (C.H.alloc (.cells [] 0)) (.slc (.n C.H.next) 0 0 0 false) (.slc i off xs.length cap t) with
          | none => rfl
          | some p => simp only [Option.map_some, get_put_if, reduceIte, Nat.reduceEqDiff, Go.AI.result, Go.AI.results, Go.AI.result1]
        rw [hb, hr]
        rfl
      have happ : appendOp esz bytes (C.H.alloc (.cells [] 0)) (.slc (.n C.H.next) 0 0 0 false) (.slc i off xs.length cap t) =
          if xs.length = 0 then some (.slc (.n C.H.next) 0 0 0 false, C.H.alloc (.cells [] 0)) else some (.slc (.n (C.H.next + 1)) 0 xs.length xs.length true, (C.H.alloc (.cells [] 0)).alloc (.cells nw esz)) := by
        unfold appendOp
        simp only [lenOf, r3', hn1, if_true, Nat.zero_add, Nat.le_zero_eq, Nat.zero_mul, loadN_zero]
        by_cases h0 : xs.length = 0
        · have : nw = [] := List.eq_nil_of_length_eq_zero (by rw [hnwl, h0]; simp)
          subst this
          simp [h0, AHeap.storeN]
        · simp only [h0, if_false, b1, b2, and_self, if_true, growOp, Bool.false_eq_true, List.nil_append, Nat.zero_add]
          rfl
      by_cases h0 : xs.length = 0
      · rw [if_pos h0] at happ
        have hx0 : xs = [] := List.eq_nil_of_length_eq_zero h0
        subst hx0
        have g2 := Stp.allocNil g.inv esz
        refine ⟨_, C.m, _, C.F, hrun _ _ happ, g.trans g2, ?_⟩
        refine ⟨by simp only [length_halloc]; omega, trivial, fun e rs g h' => ?_⟩
        simp only [hget_halloc, if_true, Option.some.injEq, DBlk.rows.injEq] at h'
        obtain ⟨rfl, h2, rfl⟩ := h'
        subst h2
        exact ⟨Nat.le_refl _, fun _ => by rw [if_pos ⟨rfl, rfl⟩]; exact .inr ⟨_, _, rfl⟩⟩
      · rw [if_neg h0] at happ
        have g2 := Stp.alloc g.inv (.rows esz (xs.map (·.map nrm)) true) (.cells nw esz) fun hD => ⟨hev, fun _ => ⟨nw, by show ((C.H.alloc (.cells [] 0)).alloc _).get _ = _; rw [AHeap.get_alloc]; exact if_pos rfl, by rw [DVr_iff]; exact (r5.ext g.ext).ext hD⟩⟩
        refine ⟨_, _, _, C.F, hrun _ _ happ, g.trans g2, ?_⟩
        have := slc_new (D := ⟨halloc C.L (.rows esz (xs.map (·.map nrm)) true), updm C.m C.L.length (.n (C.H.next + 1)), (C.H.alloc (.cells [] 0)).alloc (.cells nw esz), C.F⟩) (k := C.L.length) (e := esz) (rs := xs.map (·.map nrm)) (g := true) (by simp only [hget_halloc, if_true]) (off := 0) (len := xs.length) (cap := xs.length) (t := true) (by rw [hnl]; omega) (.inl (by intro e; rw [e] at hnl; simp at hnl; omega)) (j := .n (C.H.next + 1)) (updm_same _ _ _)
        rw [Nat.zero_mul] at this
        exact this
theorem callD_ok {E : DEnv} {A : Env} (hft : ∀ f fn, E.ft f = some fn → A.ft f = some fn ∧ A.ext f = none ∧ okF fn = true) (hpr : ∀ f p, E.prim f = some p → ∃ z, A.ft f = some (primF p z) ∧ A.ext f = none) : ∀ n, CallOkD E (callD E n) (callN A n) := by
  intro n
  induction n with
  | zero => intro fl f args L v L' h; cases h
  | succ n ih =>
    intro fl f args L v L' h
    simp only [callD] at h
    split at h
    · rename_i p hp
      obtain ⟨z, hz1, hz2⟩ := hpr f p hp
      refine ⟨fun K C args' hL hI hargs => ?_, fun m _ hb => ?_⟩
      · subst hL
        exact primD_ok hI hz1 hz2 hargs h n
      · unfold primD at h
        split at h
        · split at h
          · simp only at h
            split at h
            · cases h; exact hb.alloc _
            · cases h
          · cases h
        · cases h
    split at h
    · cases h
    rename_i fn hfn
    obtain ⟨g1, g2, g3⟩ := hft f fn hfn
    have main : ∀ o s, runCD E (callD E n) fl n fn.body ⟨putArgs args 0 .leaf, L⟩ = some (o, s) → (o = .normal ∨ o = .ret) → (resD E s.T s.L fn.results).map (fun v => (v, s.L)) = some (v, L') →
        (∀ K C args', C.L = L → Inv K E.glob C → DVs C args args' → ∃ v' m' H' F', callN A (n + 1) f args' C.H = some (v', H') ∧ Stp K E.glob C ⟨L', m', H', F'⟩ ∧ DV ⟨L', m', H', F'⟩ v v') ∧ ∀ m, m ≤ fl → Bel m L → Bel m L' := by
      intro o s hr ho hres
      rw [Option.map_eq_some_iff] at hres
      obtain ⟨w, hw, e⟩ := hres
      cases e
      refine ⟨fun K C args' hL hI hargs => ?_, fun m hm hb => runCD_bel ih hm (s := ⟨putArgs args 0 .leaf, L⟩) hb hr⟩
      subst hL
      have hS : SD K E C ⟨putArgs args 0 .leaf, C.L⟩ ⟨putArgs args' 0 .leaf, C.H⟩ := ⟨rfl, rfl, putArgs_DT 0 hargs (DT_leaf C), hI⟩
      obtain ⟨D, a', e1, e2, e3⟩ := runCD_ok ih g3 hS hr
      obtain ⟨v', e4, e5⟩ := resD_ok e3 hw
      obtain ⟨DL, Dm, DH, DF⟩ := D
      have eL : DL = s.L := e3.L
      have eH : DH = a'.H := e3.H
      subst eL
      refine ⟨v', Dm, DH, DF, ?_, e2, e5⟩
      rw [eH]
      simp only [callN, g2, g1, e1]
      rcases ho with rfl | rfl <;> simp only [e4, Option.map_some]
    split at h
    · rename_i s hr; exact main _ s hr (.inl rfl) h
    · rename_i s hr; exact main _ s hr (.inr rfl) h
    · cases h
end
end Go.AI
