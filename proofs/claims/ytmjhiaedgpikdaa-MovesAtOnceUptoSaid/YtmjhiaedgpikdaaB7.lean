/- THE DATA MACHINE, 7: what leaves a frame; calls. Own work. -/
import Derived.Test.YtmjhiaedgpikdaaB6
set_option linter.unusedSimpArgs false
set_option linter.unusedVariables false
namespace Go.AI

 mutual
theorem pur_below (n : Nat) : ∀ {a : AV}, pur a = true → below n a = true
  | .bool _, _ => rfl
  | .int _ _, _ => rfl
  | .str _, _ => rfl
  | .nilptr, _ => rfl
  | .nilmap, _ => rfl
  | .nilfunc, _ => rfl
  | .niliface, _ => rfl
  | .lst _, _ => rfl
  | .func _ x y, h => by
    have h : (purs x && purs y) = true := h
    rw [Bool.and_eq_true] at h
    show (belows n x && belows n y) = true
    rw [purs_below n h.1, purs_below n h.2]
    rfl
  | .iface _ v, h => pur_below n (a := v) h
  | .agg cs, h => purs_below n (as := cs) h
  | .tuple cs, h => purs_below n (as := cs) h
  | .ptr _ _, h => by cases h
  | .slc _ _ _ _ _, h => by cases h
  | .map _, h => by cases h
  | .fptr _ _, h => by cases h
  | .eptr _ _ _ _, h => by cases h
  | .nilslc, h => by cases h
  | .junk, h => by cases h
 termination_by structural x => x
theorem purs_below (n : Nat) : ∀ {as : List AV}, purs as = true → belows n as = true
  | [], _ => rfl
  | v :: l, h => by
    have h : (pur v && purs l) = true := h
    rw [Bool.and_eq_true] at h
    show (below n v && belows n l) = true
    rw [pur_below n h.1, purs_below n h.2]
    rfl
 termination_by structural x => x
end
theorem blt_iff {a b : Nat} : Nat.blt a b = true ↔ a < b := by rw [blt_eq]; simp
 mutual
theorem DV.chg {C D : Ctx} {n : Nat} (hF : ∀ i, C.F i → D.F i ∧ D.H.get i = C.H.get i) (hL : ∀ k, k < n → k < C.L.length → k < D.L.length ∧ ∀ B, hget D.L k = some B → ∃ A, hget C.L k = some A ∧ Compat (C.m k) (D.m k) A B) :
    ∀ {a b : AV}, below n a = true → DV C a b → DV D a b
  | .bool _, _, _, r => r
  | .int _ _, _, _, r => r
  | .str _, _, _, r => r
  | .nilptr, _, _, r => r
  | .nilmap, _, _, r => r
  | .nilfunc, _, _, r => r
  | .niliface, _, _, r => r
  | .nilslc, _, _, r => r
  | .ptr (.n k) o, b, hb, r => by
    have hb := blt_iff.1 (show Nat.blt k n = true from hb)
    obtain ⟨hk, i, p, hb2, hc⟩ := r
    obtain ⟨h1, h2⟩ := hL k hb hk
    refine ⟨h1, i, p, hb2, fun cs hcs => ?_⟩
    obtain ⟨A, hA, hcp⟩ := h2 _ hcs
    cases A with
    | cells as => obtain ⟨h1, h2⟩ := hc as hA; exact ⟨h1.trans hcp.symm, h2⟩
    | rows _ _ _ => exact hcp.elim
    | map _ _ => exact hcp.elim
  | .ptr (.o g) o, b, _, r => r
  | .fptr cs o, b, _, r => by
    obtain ⟨i, p, cs', hb, hFi, hp, hl, hv⟩ := r
    obtain ⟨h1, h2⟩ := hF i hFi
    exact ⟨i, p, cs', hb, h1, hp, by rw [loadN_get h2]; exact hl, DVs.chg hF hL (purs_below n hp) hv⟩
  | .eptr k ver row o, b, hb, r => by
    have hb := blt_iff.1 (show Nat.blt k n = true from hb)
    obtain ⟨hk, i, p, hb2, hc⟩ := r
    obtain ⟨h1, h2⟩ := hL k hb hk
    refine ⟨h1, i, p, hb2, fun esz rs g hcs => ?_⟩
    obtain ⟨A, hA, hcp⟩ := h2 _ hcs
    cases A with
    | cells as => exact hcp.elim
    | map _ _ => exact hcp.elim
    | rows e us g' =>
      obtain ⟨h1, h2⟩ := hc e us g' hA
      obtain ⟨hg, ⟨c1, c2, c3⟩ | ⟨c1, c2⟩⟩ := hcp
      · rw [c1, c2, c3]; exact ⟨h1, h2⟩
      · exact ⟨by omega, fun he => by omega⟩
  | .slc (.n k) off len cap t, b, hb, r => by
    have hb := blt_iff.1 (show Nat.blt k n = true from hb)
    obtain ⟨hk, hs, hc⟩ := r
    obtain ⟨h1, h2⟩ := hL k hb hk
    refine ⟨h1, hs, fun esz rs g hcs => ?_⟩
    obtain ⟨A, hA, hcp⟩ := h2 _ hcs
    cases A with
    | cells as => exact hcp.elim
    | map _ _ => exact hcp.elim
    | rows e us g' =>
      obtain ⟨h1, h2⟩ := hc e us g' hA
      obtain ⟨hg, ⟨c1, c2, c3⟩ | ⟨c1, c2⟩⟩ := hcp
      · subst hg
        refine ⟨by omega, fun hv => ?_⟩
        have hv' : validB us g off len cap = true := by
          unfold validB at hv ⊢
          rw [← c1]; exact hv
        have := h2 hv'
        have hnil : rs = [] ↔ us = [] := by
          rw [← List.length_eq_zero_iff, ← List.length_eq_zero_iff, c1]
        rw [c2, c3]
        simp only [hnil]
        exact this
      · subst hg
        refine ⟨by omega, fun hv => ?_⟩
        subst c1
        simp only [validB, Bool.and_eq_true, if_true, Nat.beq_eq] at hv
        omega
  | .slc (.o _) _ _ _ _, _, _, r => r
  | .lst rs, b, _, r => by
    obtain ⟨hp, hr⟩ := r
    refine ⟨hp, ?_⟩
    rcases hr with hr | ⟨esz, i, off, cap, t, cs', h1, h2, h3, h4, h5, h6⟩
    · exact .inl hr
    · obtain ⟨f1, f2⟩ := hF i h2
      exact .inr ⟨esz, i, off, cap, t, cs', h1, f1, h3, h4, by rw [loadN_get f2]; exact h5, DVr.chg hF hL hp h6⟩
  | .map (.n k), b, hb, r => by
    have hb := blt_iff.1 (show Nat.blt k n = true from hb)
    obtain ⟨hk, i, hb2, hc⟩ := r
    obtain ⟨h1, h2⟩ := hL k hb hk
    refine ⟨h1, i, hb2, fun es c hcs => ?_⟩
    obtain ⟨A, hA, hcp⟩ := h2 _ hcs
    cases A with
    | map es' c' => exact (hc es' c' hA).trans hcp.symm
    | rows _ _ _ => exact hcp.elim
    | cells _ => exact hcp.elim
  | .map (.o _), _, _, r => r
  | .func f x y, b, hb, r => by
    have hb : (belows n x && belows n y) = true := hb
    rw [Bool.and_eq_true] at hb
    obtain ⟨a', b', hb2, h1, h2⟩ := r
    exact ⟨a', b', hb2, DVs.chg hF hL hb.1 h1, DVs.chg hF hL hb.2 h2⟩
  | .iface t x, b, hb, r => by
    obtain ⟨y, hb2, h1⟩ := r
    exact ⟨y, hb2, DV.chg hF hL (a := x) hb h1⟩
  | .agg cs, b, hb, r => by
    obtain ⟨y, hb2, h1⟩ := r
    exact ⟨y, hb2, DVs.chg hF hL (as := cs) hb h1⟩
  | .tuple cs, b, hb, r => by
    obtain ⟨y, hb2, h1⟩ := r
    exact ⟨y, hb2, DVs.chg hF hL (as := cs) hb h1⟩
  | .junk, _, _, r => r
 termination_by structural x => x
theorem DVs.chg {C D : Ctx} {n : Nat} (hF : ∀ i, C.F i → D.F i ∧ D.H.get i = C.H.get i) (hL : ∀ k, k < n → k < C.L.length → k < D.L.length ∧ ∀ B, hget D.L k = some B → ∃ A, hget C.L k = some A ∧ Compat (C.m k) (D.m k) A B) :
    ∀ {as bs : List AV}, belows n as = true → DVs C as bs → DVs D as bs
  | [], _, _, r => r
  | v :: l, _, hb, r => by
    have hb : (below n v && belows n l) = true := hb
    rw [Bool.and_eq_true] at hb
    obtain ⟨b, bs, hl, ha, has⟩ := r
    exact ⟨b, bs, hl, DV.chg hF hL hb.1 ha, DVs.chg hF hL hb.2 has⟩
 termination_by structural x => x
theorem DVr.chg {C D : Ctx} {n : Nat} (hF : ∀ i, C.F i → D.F i ∧ D.H.get i = C.H.get i) (hL : ∀ k, k < n → k < C.L.length → k < D.L.length ∧ ∀ B, hget D.L k = some B → ∃ A, hget C.L k = some A ∧ Compat (C.m k) (D.m k) A B) :
    ∀ {rs : List (List AV)} {bs : List AV}, purR rs = true → DVr C rs bs → DVr D rs bs
  | [], _, _, r => r
  | v :: l, _, hb, r => by
    have hb : (purs v && purR l) = true := hb
    rw [Bool.and_eq_true] at hb
    obtain ⟨a, b, hl, ha, has⟩ := r
    exact ⟨a, b, hl, DVs.chg hF hL (purs_below n hb.1) ha, DVr.chg hF hL hb.2 has⟩
 termination_by structural x => x
end

 mutual
theorem DV.names {C : Ctx} : ∀ {a b : AV}, DV C a b → below C.L.length a = true
  | .bool _, _, _ => rfl
  | .int _ _, _, _ => rfl
  | .str _, _, _ => rfl
  | .nilptr, _, _ => rfl
  | .nilmap, _, _ => rfl
  | .nilfunc, _, _ => rfl
  | .niliface, _, _ => rfl
  | .lst _, _, _ => rfl
  | .nilslc, _, _ => rfl
  | .fptr _ _, _, _ => rfl
  | .func _ x y, b, h => by
    obtain ⟨a', b', _, h1, h2⟩ := h
    show (belows _ x && belows _ y) = true
    rw [DVs.names h1, DVs.names h2]
    rfl
  | .iface _ v, b, h => by obtain ⟨y, _, h1⟩ := h; exact DV.names (a := v) h1
  | .agg cs, b, h => by obtain ⟨y, _, h1⟩ := h; exact DVs.names (as := cs) h1
  | .tuple cs, b, h => by obtain ⟨y, _, h1⟩ := h; exact DVs.names (as := cs) h1
  | .ptr (.n k) _, _, h => blt_iff.2 h.1
  | .ptr (.o _) _, _, _ => rfl
  | .slc (.n k) _ _ _ _, _, h => blt_iff.2 h.1
  | .slc (.o _) _ _ _ _, _, h => h.elim
  | .map (.n k), _, h => blt_iff.2 h.1
  | .map (.o _), _, h => h.elim
  | .eptr k _ _ _, _, h => blt_iff.2 h.1
  | .junk, _, h => h.elim
 termination_by structural x => x
theorem DVs.names {C : Ctx} : ∀ {as bs : List AV}, DVs C as bs → belows C.L.length as = true
  | [], _, _ => rfl
  | v :: l, _, h => by
    obtain ⟨b, bs, _, h1, h2⟩ := h
    show (below _ v && belows _ l) = true
    rw [DV.names h1, DVs.names h2]
    rfl
 termination_by structural x => x
end
theorem belows_iff {n : Nat} : ∀ {l : List AV}, belows n l = true ↔ ∀ v ∈ l, below n v = true
  | [] => ⟨fun _ r h => (nomatch h), fun _ => rfl⟩
  | r :: rs => by
    have e : belows n (r :: rs) = (below n r && belows n rs) := rfl
    rw [e, Bool.and_eq_true, belows_iff (l := rs)]
    constructor
    · rintro ⟨h1, h2⟩ x hx
      rcases List.mem_cons.1 hx with rfl | hx
      · exact h1
      · exact h2 x hx
    · exact fun h => ⟨h r List.mem_cons_self, fun x hx => h x (List.mem_cons_of_mem _ hx)⟩

/-! ### what stands below a floor -/
def BlkB (n : Nat) : DBlk → Prop
  | .cells cs => belows n cs = true
  | .rows _ rs _ => ∀ r ∈ rs, belows n r = true
  | .map es _ => ∀ e ∈ es, below n e.1 = true ∧ below n e.2.1 = true
def Bel (n : Nat) (L : DHeap) : Prop := n ≤ L.length ∧ ∀ k B, k < n → hget L k = some B → BlkB n B
section
variable {n : Nat} {L : DHeap}
theorem Bel.alloc (h : Bel n L) (B : DBlk) : Bel n (halloc L B) := by
  refine ⟨by rw [length_halloc]; have := h.1; omega, fun k B' hk hB => ?_⟩
  rw [hget_halloc, if_neg (by have := h.1; omega)] at hB
  exact h.2 k B' hk hB
theorem Bel.set (h : Bel n L) {k : Nat} {B : DBlk} (hb : k < n → BlkB n B) : Bel n (hset L k B) := by
  refine ⟨by rw [length_hset]; exact h.1, fun j B' hj hB => ?_⟩
  by_cases hk : k < L.length
  · rw [hget_hset _ _ _ hk] at hB
    split at hB
    · rename_i e; subst e; cases hB; exact hb hj
    · exact h.2 j B' hj hB
  · have : hset L k B = L := by unfold hset; exact List.set_eq_of_length_le (by omega)
    rw [this] at hB
    exact h.2 j B' hj hB
theorem Bel.kill (h : Bel n L) (k : Nat) : Bel n (hkill L k) := by
  refine ⟨by rw [length_hkill]; exact h.1, fun j B' hj hB => ?_⟩
  rw [hget_hkill] at hB
  split at hB
  · cases hB
  · exact h.2 j B' hj hB
theorem mem_lay {α : Type} {cs vs : List α} {o : Nat} {x : α} (h : x ∈ lay cs o vs) : x ∈ cs ∨ x ∈ vs := by
  unfold lay at h
  rcases List.mem_append.1 h with h | h
  · rcases List.mem_append.1 h with h | h
    · exact .inl (List.mem_of_mem_take h)
    · exact .inr h
  · exact .inl (List.mem_of_mem_drop h)
theorem belows_lay {cs vs : List AV} {o : Nat} (h : belows n cs = true) (k : belows n vs = true) : belows n (lay cs o vs) = true := by
  rw [belows_iff] at h k ⊢
  exact fun v hv => (mem_lay hv).elim (h v) (k v)
theorem storeD_bel {fl m : Nat} {a x : AV} (hf : n ≤ fl) (hb : Bel n L) {L' : DHeap} (h : storeD fl m a x L = some L') : Bel n L' := by
  unfold storeD at h
  split at h
  case isFalse => cases h
  split at h
  · split at h
    · rename_i cs hcs
      split at h
      · rename_i hc
        cases h
        exact hb.set fun hk => belows_lay (hb.2 _ _ hk hcs) (purs_below n (hc.2.resolve_right (by omega)))
      · cases h
    · cases h
  · split at h
    · rename_i e rs g hB
      split at h
      · split at h
        · rename_i r hr
          split at h
          · rename_i hc
            cases h
            refine hb.set fun hk r' hr' => ?_
            have hrs := hb.2 _ _ hk hB
            rcases List.mem_or_eq_of_mem_set hr' with h1 | h1
            · exact hrs r' h1
            · rw [h1]
              exact belows_lay (hrs r (List.mem_of_getElem? hr)) (purs_below n (hc.2.resolve_right (by omega)))
          · cases h
        · cases h
      · cases h
    · cases h
  · cases h
theorem purR_below {rs : List (List AV)} (h : purR rs = true) : ∀ r ∈ rs, belows n r = true := fun r hr => purs_below n (purR_iff.1 h r hr)
theorem appendD_bel {fl esz bytes : Nat} {s x : AV} (hf : n ≤ fl) (hb : Bel n L) {v : AV} {L' : DHeap} (h : appendD fl esz bytes L s x = some (v, L')) : Bel n L' := by
  unfold appendD at h
  split at h
  · cases h
  simp only at h
  split at h
  case isFalse => cases h
  split at h
  · split at h
    · cases h; exact hb
    · split at h
      · cases h; exact hb.alloc _
      · cases h
  · rename_i k off len cap tail
    split at h
    case h_2 => cases h
    rename_i e rs g hB
    split at h
    case isFalse => cases h
    split at h
    · split at h
      · rename_i hc
        cases h
        split
        · exact hb
        · refine hb.set fun hk r hr => ?_
          rcases mem_lay hr with hr | hr
          · exact hb.2 _ _ hk hB r hr
          · exact purR_below (hc.2.resolve_right (by omega)) r hr
      · cases h
    · split at h
      · split at h
        · split at h
          · rename_i hc
            split at h
            · cases h
              refine hb.set fun hk r hr => ?_
              rcases List.mem_append.1 hr with hr | hr
              · exact hb.2 _ _ hk hB r (List.mem_of_mem_take hr)
              · exact purR_below (hc.2.resolve_right (by omega)) r hr
            · cases h; exact (hb.kill k).alloc _
          · cases h
        · cases h; exact hb.alloc _
      · cases h
  · cases h
theorem copyD_bel {fl esz : Nat} {d s : AV} (hf : n ≤ fl) (hb : Bel n L) {v : AV} {L' : DHeap} (h : copyD fl esz L d s = some (v, L')) : Bel n L' := by
  unfold copyD at h
  split at h
  case h_2 => cases h
  split at h
  · cases h; exact hb
  · split at h
    case h_2 => cases h
    rename_i k off len cap t
    split at h
    case h_2 => cases h
    rename_i e rs g hB
    simp only at h
    split at h
    case isFalse => cases h
    rename_i hc
    cases h
    refine hb.set fun hk r hr => ?_
    rcases mem_lay hr with hr | hr
    · exact hb.2 _ _ hk hB r hr
    · exact purR_below (hc.2.2.2.2.resolve_right (by omega)) r hr
theorem clearD_bel {fl : Nat} {z : List AV} {x : AV} (hf : n ≤ fl) (hb : Bel n L) {L' : DHeap} (h : clearD fl z L x = some L') : Bel n L' := by
  unfold clearD at h
  split at h
  · cases h; exact hb
  · rename_i k off len cap t
    split at h
    case h_2 => cases h
    rename_i e rs g hB
    simp only at h
    split at h
    case isFalse => cases h
    rename_i hc
    cases h
    split
    · exact hb
    · refine hb.set fun hk r hr => ?_
      rcases mem_lay hr with hr | hr
      · exact hb.2 _ _ hk hB r hr
      · rw [(List.mem_replicate.1 hr).2]
        exact purs_below n (hc.2.2.2.resolve_right (by omega))
  · cases h
theorem mem_modify {α : Type} {l : List α} {j : Nat} {f : α → α} {x : α} (h : x ∈ l.modify j f) : x ∈ l ∨ ∃ y ∈ l, x = f y := by
  obtain ⟨i, hi⟩ := List.mem_iff_getElem?.1 h
  rw [List.getElem?_modify] at hi
  cases hl : l[i]? with
  | none => rw [hl] at hi; cases hi
  | some y =>
    rw [hl] at hi
    have hy := List.mem_of_getElem? hl
    by_cases e : j = i
    · simp [e] at hi; exact .inr ⟨y, hy, hi.symm⟩
    · simp [e] at hi; rw [← hi]; exact .inl hy
theorem mapSetD_bel {fl : Nat} {kn : List CK} {ag : Bool} {m k x : AV} (hf : n ≤ fl) (hb : Bel n L) {L' : DHeap} (h : mapSetD fl kn ag L m k x = some L') : Bel n L' := by
  unfold mapSetD at h
  split at h
  case isFalse => cases h
  split at h
  case h_2 => cases h
  rename_i i
  split at h
  case h_2 => cases h
  rename_i es c hB
  split at h
  case isFalse => cases h
  rename_i hc
  have hpk : i < n → below n x = true ∧ below n k = true := fun hi => by
    obtain ⟨h1, h2⟩ := hc.resolve_right (by omega)
    exact ⟨pur_below n h1, pur_below n h2⟩
  split at h
  · cases h
  · cases h
    refine hb.set fun hk e he => ?_
    rcases mem_modify he with he | ⟨y, hy, rfl⟩
    · exact hb.2 i _ hk hB e he
    · exact ⟨(hpk hk).2, (hpk hk).1⟩
  · cases h
    refine hb.set fun hk e he => ?_
    rcases List.mem_append.1 he with he | he
    · exact hb.2 i _ hk hB e he
    · rw [List.mem_singleton] at he; subst he; exact ⟨(hpk hk).2, (hpk hk).1⟩
theorem mapEntryD_bel {fl : Nat} {z : AV} {kn : List CK} {ag : Bool} {m k : AV} (hf : n ≤ fl) (hb : Bel n L) {v : AV} {L' : DHeap} (h : mapEntryD fl z kn ag L m k = some (v, L')) : Bel n L' := by
  unfold mapEntryD at h
  split at h
  case isFalse => cases h
  split at h
  case h_2 => cases h
  rename_i i
  split at h
  case h_2 => cases h
  rename_i es c hB
  split at h
  case isFalse => cases h
  rename_i hc
  have hpk : i < n → below n z = true ∧ below n k = true := fun hi => by
    obtain ⟨h1, h2⟩ := hc.resolve_right (by omega)
    exact ⟨pur_below n h1, pur_below n h2⟩
  split at h
  · cases h
  · split at h
    · cases h
      refine hb.set fun hk e he => ?_
      rcases mem_modify he with he | ⟨y, hy, rfl⟩
      · exact hb.2 i _ hk hB e he
      · exact ⟨(hpk hk).2, (hb.2 i _ hk hB y hy).2⟩
    · cases h
  · cases h
    refine hb.set fun hk e he => ?_
    rcases List.mem_append.1 he with he | he
    · exact hb.2 i _ hk hB e he
    · rw [List.mem_singleton] at he; subst he; exact ⟨(hpk hk).2, (hpk hk).1⟩
theorem entryStoreD_bel {fl : Nat} {m s x : AV} (hf : n ≤ fl) (hb : Bel n L) {L' : DHeap} (h : entryStoreD fl L m s x = some L') : Bel n L' := by
  unfold entryStoreD at h
  split at h
  case h_2 => cases h
  rename_i i kb b
  split at h
  case h_2 => cases h
  rename_i es c hB
  split at h
  case isFalse => cases h
  rename_i hc
  split at h
  · cases h
    refine hb.set fun hk e he => ?_
    rcases mem_modify he with he | ⟨y, hy, rfl⟩
    · exact hb.2 i _ hk hB e he
    · exact ⟨(hb.2 i _ hk hB y hy).1, pur_below n (hc.resolve_right (by omega))⟩
  · cases h
theorem deleteD_bel {kn : List CK} {ag : Bool} {m k : AV} (hb : Bel n L) {L' : DHeap} (h : deleteD kn ag L m k = some L') : Bel n L' := by
  unfold deleteD at h
  split at h
  case isFalse => cases h
  split at h
  case h_2 => cases h
  rename_i i
  split at h
  case h_2 => cases h
  rename_i es c hB
  split at h
  · cases h
  · cases h
    exact hb.set fun hk e he => hb.2 i _ hk hB e (List.mem_of_mem_eraseIdx he)
  · cases h; exact hb
theorem opD_bel {E : DEnv} {fl : Nat} {o : AOp} {T : Trie AV} (hf : n ≤ fl) (hb : Bel n L) {v : AV} {L' : DHeap} (h : opD E fl o T L = some (v, L')) : Bel n L' := by
  have same : ∀ {r : Option AV}, r.map (fun v => (v, L)) = some (v, L') → Bel n L' := by
    intro r h1
    rw [Option.map_eq_some_iff] at h1
    obtain ⟨w, hw, e⟩ := h1
    cases e
    exact hb
  have sto : ∀ {r : Option DHeap}, (∀ w, r = some w → Bel n w) → r.map (fun L => (AV.undef, L)) = some (v, L') → Bel n L' := by
    intro r hr h1
    rw [Option.map_eq_some_iff] at h1
    obtain ⟨w, hw, e⟩ := h1
    cases e
    exact hr _ hw
  cases o <;> simp only [opD] at h <;> first
    | exact same h
    | exact sto (fun w hw => storeD_bel hf hb hw) h
    | exact sto (fun w hw => clearD_bel hf hb hw) h
    | exact sto (fun w hw => mapSetD_bel hf hb hw) h
    | exact sto (fun w hw => entryStoreD_bel hf hb hw) h
    | exact sto (fun w hw => deleteD_bel hb hw) h
    | exact appendD_bel hf hb h
    | exact copyD_bel hf hb h
    | exact mapEntryD_bel hf hb h
    | (cases h; exact hb)
    | (cases h; exact hb.alloc _)
    | (split at h <;> cases h <;> first | exact hb | exact hb.alloc _)
    | (rw [Option.map_eq_some_iff] at h; obtain ⟨w, hw, e⟩ := h; cases e; exact hb)
    | (rw [Option.bind_eq_some_iff] at h; obtain ⟨w, hw, e⟩ := h; unfold bsliceD at e; split at e <;> cases e; exact hb.alloc _)
    | (unfold mkSliceD at h; split at h <;> first | cases h | (split at h <;> cases h; exact hb.alloc _))
    | cases h
end

/-! ### what leaves a frame -/
section
variable {C : Ctx} {K : Id → Prop} {G : Nat → Option (List AV)}
theorem frz_slc (hI : Inv K G C) {k off len cap : Nat} {t : Bool} {rs : List (List AV)} (hr : rowsV C.L (.slc (.n k) off len cap t) = some rs) (hp : purR rs = true) {b : AV} (h : DV C (.slc (.n k) off len cap t) b)
    {F' : Id → Prop} (hF : ∀ i, C.F i → F' i) (hlive : ∀ B, hget C.L k = some B → real B = true → F' (C.m k)) (Lx : DHeap) (mx : Nat → Id) : DV ⟨Lx, mx, C.H, F'⟩ (.lst rs) b := by
  simp only [rowsV] at hr
  split at hr
  case h_2 => cases hr
  rename_i e rs0 g hB
  split at hr
  case isFalse => cases hr
  rename_i hv
  cases hr
  obtain ⟨v1, v2, v3⟩ := validB_iff hv
  obtain ⟨hk, _, hcc⟩ := h
  have h3 := (hcc e rs0 g hB).2 hv
  have hl : ((rs0.drop off).take len).length = len := by rw [List.length_take, List.length_drop]; omega
  refine ⟨hp, ?_⟩
  split at h3
  · rename_i hn
    rw [hn.2]
    refine .inl ⟨by simp, ?_⟩
    rcases h3 with h3 | ⟨i, o, h3⟩
    · exact .inl h3
    · exact .inr ⟨_, _, _, _, h3⟩
  · rename_i hn
    subst h3
    by_cases hl0 : len = 0
    · subst hl0
      exact .inl ⟨by simp, .inr ⟨_, _, _, _, rfl⟩⟩
    · have hre : real (.rows e rs0 g) = true := by
        cases rs0 with
        | cons _ _ => rfl
        | nil => simp at v1; omega
      have hb := hI.blk k _ hB
      obtain ⟨cs', g1, g2⟩ := hb.2 hre
      have hevr := evenB_iff.1 hb.1
      have hsg := flat_seg hevr (a := off) (n := len) (by omega)
      obtain ⟨x, x1, x2⟩ := (DVr_iff.1 g2).seg hsg
      refine .inr ⟨e, C.m k, off * e, cap, t, x, by rw [hl], hlive _ hB hre, by rw [hl]; exact v2, evenB_iff.2 ((hevr.drop _).take _), ?_, ?_⟩
      · rw [hl]
        exact loadN_cells g1 x1
      · exact DVr.chg (C := C) (D := ⟨Lx, mx, C.H, F'⟩) (n := 0) (fun i hi => ⟨hF i hi, rfl⟩) (fun k hk => by omega) hp (DVr_iff.2 x2)
 mutual
theorem frz_ok (hI : Inv K G C) {fl : Nat} {F' : Id → Prop} (hF : ∀ i, C.F i → F' i) (hlive : ∀ k B, fl ≤ k → hget C.L k = some B → real B = true → F' (C.m k)) (Lx : DHeap) (mx : Nat → Id) :
    ∀ {v d b : AV}, frz C.L fl v = some d → DV C v b → DV ⟨Lx, mx, C.H, F'⟩ d b
  | .nilslc, d, b, h, r => by
    cases h
    rcases r with rfl | ⟨i, off, rfl⟩
    · exact ⟨rfl, .inl ⟨rfl, .inl rfl⟩⟩
    · exact ⟨rfl, .inl ⟨rfl, .inr ⟨_, _, _, _, rfl⟩⟩⟩
  | .slc (.n k) off len cap t, d, b, h, r => by
    have h : (if fl ≤ k then match rowsV C.L (.slc (.n k) off len cap t) with
      | some rs => if purR rs then some (AV.lst rs) else none
      | none => none
    else none) = some d := h
    split at h
    case isFalse => cases h
    rename_i hk
    split at h
    case h_2 => cases h
    rename_i rs hrs
    split at h
    case isFalse => cases h
    rename_i hp
    cases h
    exact frz_slc hI hrs hp r hF (fun B hB hr => hlive k B hk hB hr) Lx mx
  | .slc (.o g) off len cap t, d, b, h, r => r.elim
  | .iface t v, d, b, h, r => by
    have h : (frz C.L fl v).map (.iface t) = some d := h
    rw [Option.map_eq_some_iff] at h
    obtain ⟨w, hw, rfl⟩ := h
    obtain ⟨y, rfl, h1⟩ := r
    exact ⟨y, rfl, frz_ok hI hF hlive Lx mx hw h1⟩
  | .agg cs, d, b, h, r => by
    have h : (frzs C.L fl cs).map .agg = some d := h
    rw [Option.map_eq_some_iff] at h
    obtain ⟨w, hw, rfl⟩ := h
    obtain ⟨y, rfl, h1⟩ := r
    exact ⟨y, rfl, frzs_ok hI hF hlive Lx mx hw h1⟩
  | .tuple cs, d, b, h, r => by
    have h : (frzs C.L fl cs).map .tuple = some d := h
    rw [Option.map_eq_some_iff] at h
    obtain ⟨w, hw, rfl⟩ := h
    obtain ⟨y, rfl, h1⟩ := r
    exact ⟨y, rfl, frzs_ok hI hF hlive Lx mx hw h1⟩
  | .bool x, d, b, h, r => by cases h; exact r
  | .int k x, d, b, h, r => by cases h; exact r
  | .str x, d, b, h, r => by cases h; exact r
  | .nilptr, d, b, h, r => by cases h; exact r
  | .nilmap, d, b, h, r => by cases h; exact r
  | .nilfunc, d, b, h, r => by cases h; exact r
  | .niliface, d, b, h, r => by cases h; exact r
  | .lst rs, d, b, h, r => by
    cases h
    exact DV.chg (C := C) (D := ⟨Lx, mx, C.H, F'⟩) (n := 0) (fun i hi => ⟨hF i hi, rfl⟩) (fun k hk => by omega) rfl r
  | .func f x y, d, b, h, r => by
    have h : (if pur (.func f x y) then some (AV.func f x y) else none) = some d := h
    split at h
    · rename_i hp
      cases h
      exact DV.chg (C := C) (D := ⟨Lx, mx, C.H, F'⟩) (n := 0) (fun i hi => ⟨hF i hi, rfl⟩) (fun k hk => by omega) (pur_below 0 hp) r
    · cases h
  | .ptr _ _, d, b, h, r => by cases h
  | .map _, d, b, h, r => by cases h
  | .fptr _ _, d, b, h, r => by cases h
  | .eptr _ _ _ _, d, b, h, r => by cases h
  | .junk, d, b, h, r => by cases h
 termination_by structural x => x
theorem frzs_ok (hI : Inv K G C) {fl : Nat} {F' : Id → Prop} (hF : ∀ i, C.F i → F' i) (hlive : ∀ k B, fl ≤ k → hget C.L k = some B → real B = true → F' (C.m k)) (Lx : DHeap) (mx : Nat → Id) :
    ∀ {v d b : List AV}, frzs C.L fl v = some d → DVs C v b → DVs ⟨Lx, mx, C.H, F'⟩ d b
  | [], d, b, h, r => by cases h; exact r
  | v :: l, d, b, h, r => by
    have h : (match frz C.L fl v, frzs C.L fl l with
    | some a, some l => some (a :: l)
    | _, _ => none) = some d := h
    split at h
    · rename_i a l' h1 h2
      cases h
      obtain ⟨b1, bs, rfl, r1, r2⟩ := r
      exact ⟨b1, bs, rfl, frz_ok hI hF hlive Lx mx h1 r1, frzs_ok hI hF hlive Lx mx h2 r2⟩
    · cases h
 termination_by structural x => x
end
 mutual
theorem atomic_chg {D : Ctx} : ∀ {a b : AV}, atomic a = true → DV C a b → DV D a b
  | .bool _, _, _, r => r
  | .int _ _, _, _, r => r
  | .str _, _, _, r => r
  | .nilptr, _, _, r => r
  | .nilmap, _, _, r => r
  | .nilfunc, _, _, r => r
  | .niliface, _, _, r => r
  | .func f x y, b, h, r => by
    have h : (atomics x && atomics y) = true := h
    rw [Bool.and_eq_true] at h
    obtain ⟨a', b', e, h1, h2⟩ := r
    exact ⟨a', b', e, atomics_chg h.1 h1, atomics_chg h.2 h2⟩
  | .iface t x, b, h, r => by
    obtain ⟨y, e, h1⟩ := r
    exact ⟨y, e, atomic_chg (a := x) h h1⟩
  | .agg cs, b, h, r => by
    obtain ⟨y, e, h1⟩ := r
    exact ⟨y, e, atomics_chg (as := cs) h h1⟩
  | .tuple cs, b, h, r => by
    obtain ⟨y, e, h1⟩ := r
    exact ⟨y, e, atomics_chg (as := cs) h h1⟩
  | .lst _, _, h, _ => by cases h
  | .nilslc, _, h, _ => by cases h
  | .ptr _ _, _, h, _ => by cases h
  | .slc _ _ _ _ _, _, h, _ => by cases h
  | .map _, _, h, _ => by cases h
  | .fptr _ _, _, h, _ => by cases h
  | .eptr _ _ _ _, _, h, _ => by cases h
  | .junk, _, h, _ => by cases h
 termination_by structural x => x
theorem atomics_chg {D : Ctx} : ∀ {as bs : List AV}, atomics as = true → DVs C as bs → DVs D as bs
  | [], _, _, r => r
  | v :: l, _, h, r => by
    have h : (atomic v && atomics l) = true := h
    rw [Bool.and_eq_true] at h
    obtain ⟨b, bs, e, h1, h2⟩ := r
    exact ⟨b, bs, e, atomic_chg h.1 h1, atomics_chg h.2 h2⟩
 termination_by structural x => x
end
end
end Go.AI
