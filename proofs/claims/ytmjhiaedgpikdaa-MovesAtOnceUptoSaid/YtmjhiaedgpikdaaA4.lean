/- THE SECOND MACHINE, 4: cells read and written, on both sides. Own work. -/
import Derived.Test.YtmjhiaedgpikdaaA3
set_option linter.unusedSimpArgs false
set_option linter.unusedVariables false
namespace Go.AI

theorem VRs.lay {φ : Emb} {cs vs : List AV} {cs' us : List Value} (h : VRs φ cs cs') (k : VRs φ vs us) (o : Nat) : VRs φ (lay cs o vs) (lay cs' o us) := by
  unfold AI.lay
  rw [k.length]
  exact ((h.take o).append k).append (h.drop _)

theorem length_lay {α : Type} (cs : List α) (o : Nat) (vs : List α) (h : o + vs.length ≤ cs.length) : (lay cs o vs).length = cs.length := by
  simp [lay]
  omega

/-- What is laid into a longer list, looked at from 'off' on, n of it. -/
theorem drop_take_lay {α : Type} (L us : List α) (off o n : Nat) (h : o + us.length ≤ n) (hL : off + n ≤ L.length) :
    ((lay L (off + o) us).drop off).take n = lay ((L.drop off).take n) o us := by
  apply List.ext_getElem?
  intro j
  simp only [lay, List.getElem?_take, List.getElem?_drop, List.getElem?_append, List.length_take, List.length_append, List.length_drop]
  have e1 : min (off + o) L.length = off + o := by omega
  have e2 : min o (min n (L.length - off)) = o := by omega
  rw [e1, e2]
  by_cases hj : j < n
  · rw [if_pos hj]
    by_cases h1 : j < o
    · rw [if_pos (show off + j < off + o + us.length by omega), if_pos (show off + j < off + o by omega), if_pos (show off + j < off + o by omega), if_pos (show j < o + us.length by omega), if_pos h1, if_pos h1, if_pos hj]
    · by_cases h2 : j < o + us.length
      · rw [if_pos (show off + j < off + o + us.length by omega), if_neg (show ¬ off + j < off + o by omega), if_pos h2, if_neg h1]
        congr 1
        omega
      · rw [if_neg (show ¬ off + j < off + o + us.length by omega), if_neg h2, if_pos (show o + us.length + (j - (o + us.length)) < n by omega)]
        congr 1
        omega
  · rw [if_neg hj, if_neg (show ¬ j < o + us.length by omega), if_neg (show ¬ o + us.length + (j - (o + us.length)) < n by omega)]

theorem addr_add (b o j : Nat) : (⟨b, o, none⟩ : Addr).add j = ⟨b, o + j, none⟩ := by unfold Addr.add; split <;> simp_all

/-- What is read. -/
theorem Rel.loaded {φ : Emb} {w0 w : World} {H : AHeap} (h : Rel φ w0 H w) {i : Id} {l : Loc} (hl : φ i = some l) {o n : Nat} {cs : List AV} (hc : H.loadN i o n = some cs) :
    ∃ vs : List Value, vs.length = n ∧ cs.length = n ∧ VRs φ cs vs ∧ ∀ j v, vs[j]? = some v → w.cell? ⟨l.blk, l.off + o + j, none⟩ = some v := by
  unfold AHeap.loadN at hc
  by_cases hn : n = 0
  · rw [if_pos hn] at hc
    cases hc
    exact ⟨[], hn.symm, hn.symm, VRs.nil, fun j v hj => by simp at hj⟩
  · rw [if_neg hn] at hc
    cases hB : H.get i with
    | none => simp [hB] at hc
    | some B =>
      obtain ⟨h2, h3⟩ := h.blk i B l hB hl
      cases B with
      | map es c => simp [hB] at hc
      | iter a b c d => simp [hB] at hc
      | cells xs s =>
        simp only [hB, seg] at hc
        split at hc
        · rename_i hle
          cases hc
          obtain ⟨c, t, fz, hh, _, hv, hsz⟩ := h3
          have hlen := hv.length
          refine ⟨((((c.toList.drop l.off).take xs.length)).drop o).take n, ?_, ?_, (hv.drop o).take n, ?_⟩
          · simp only [List.length_take, List.length_drop] at hlen ⊢
            omega
          · simp only [List.length_take, List.length_drop]
            omega
          · intro j v hj
            rw [cell_of_row w l.blk _ c t fz hh]
            simp only [List.getElem?_take, List.getElem?_drop] at hj
            split at hj
            · split at hj
              · rw [← hj]
                rw [show l.off + o + j = l.off + (o + j) by omega]
                simp
              · cases hj
            · cases hj
        · cases hc

theorem Rel.run_load {φ : Emb} {w0 w : World} {H : AHeap} (h : Rel φ w0 H w) {i : Id} {l : Loc} (hl : φ i = some l) {o n : Nat} {cs : List AV} (hc : H.loadN i o n = some cs)
    (P : Program) (a : Addr) (ha : n ≠ 0 → a = ⟨l.blk, l.off + o, none⟩) :
    ∃ vs : List Value, vs.length = n ∧ VRs φ cs vs ∧ (loadCells a n).run P w = .ok vs.toArray w ∧ ∀ j v, vs[j]? = some v → w.cell? (a.add j) = some v := by
  obtain ⟨vs, h1, _, h2, h4⟩ := h.loaded hl hc
  have hcell : ∀ j v, vs[j]? = some v → w.cell? (a.add j) = some v := by
    intro j v hj
    have hn : n ≠ 0 := by
      intro e
      subst e
      rw [List.eq_nil_of_length_eq_zero h1] at hj
      simp at hj
    rw [ha hn, addr_add]
    exact h4 j v hj
  refine ⟨vs, h1, h2, ?_, hcell⟩
  have := run_loadCells_list (P := P) w a vs hcell
  rw [h1] at this
  exact this

/-- What is written. -/
theorem Rel.run_store {φ : Emb} {w0 w : World} {H H' : AHeap} (h : Rel φ w0 H w) {i : Id} {l : Loc} (hl : φ i = some l) {o : Nat} {vs : List AV} {us : List Value} (hs : H.storeN i o vs = some H')
    (hv : VRs φ vs us) (P : Program) (a : Addr) (ha : vs ≠ [] → a = ⟨l.blk, l.off + o, none⟩) :
    ∃ w', (storeCells a us).run P w = .ok () w' ∧ Rel φ w0 H' w' ∧ Step φ H φ H' := by
  unfold AHeap.storeN at hs
  by_cases hn : vs = []
  · rw [if_pos hn] at hs
    cases hs
    subst hn
    have : us = [] := hv
    subst this
    exact ⟨w, rfl, h, Step.refl _ _⟩
  · rw [if_neg hn] at hs
    cases i with
    | o n => simp at hs
    | n k =>
      cases hB : H.get (.n k) with
      | none => simp [hB] at hs
      | some B =>
        obtain ⟨h2, h3⟩ := h.blk _ B l hB hl
        cases B with
        | map es c => simp [hB] at hs
        | iter a b c d => simp [hB] at hs
        | cells xs s =>
          simp only [hB] at hs
          split at hs
          · rename_i hle
            simp only [Bool.and_eq_true, decide_eq_true_eq] at hle
            obtain ⟨hle, hone⟩ := hle
            cases hs
            obtain ⟨c, t, fz, hh, hfz, hvv, hsz⟩ := h3
            have hfz := hfz rfl
            subst hfz
            have hlen := hvv.length
            have hul := hv.length
            have hst := run_storeCells_at P l.blk (l.off + o) t us 0 c w hh (by simp only [List.length_take, List.length_drop, Array.length_toList] at hlen; omega) (by
              intro v hvm
              obtain ⟨j, hj⟩ := List.mem_iff_getElem?.1 hvm
              have hj' : j < vs.length := by
                rw [hul]
                exact (List.getElem?_eq_some_iff.1 hj).1
              obtain ⟨v', h5, h6⟩ := hv.get (List.getElem?_eq_getElem hj')
              rw [hj] at h5
              cases h5
              exact h6.oneCell (List.all_eq_true.1 hone _ (List.getElem_mem hj')))
            rw [ha hn]
            refine ⟨_, hst, ?_, Step.setN _ hl⟩
            refine h.setN k _ l hl h2 ?_ (fun j hj => setRow_other w _ j _ hj) (setRow_size w _ _) rfl rfl rfl
            refine ⟨_, t, (0, 0), setRow_heap w l.blk c _ t (0, 0) hh, fun _ => rfl, ?_, ?_⟩
            · have e := drop_take_lay c.toList us l.off o xs.length (by omega) (by simp only [List.length_take, List.length_drop, Array.length_toList] at hlen ⊢; omega)
              rw [length_lay _ _ _ hle]
              have e2 : (c.toList.take (l.off + o + 0) ++ us ++ c.toList.drop (l.off + o + 0 + us.length)) = AI.lay c.toList (l.off + o) us := rfl
              rw [e2, List.toList_toArray, e]
              exact VRs.lay hvv hv o
            · have hc : (AI.lay c.toList (l.off + o) us).length = c.toList.length := length_lay _ _ _ (by simp only [List.length_take, List.length_drop, Array.length_toList] at hlen ⊢; omega)
              have e2 : (c.toList.take (l.off + o + 0) ++ us ++ c.toList.drop (l.off + o + 0 + us.length)) = AI.lay c.toList (l.off + o) us := rfl
              rw [length_lay _ _ _ hle, e2, List.size_toArray, hc, Array.length_toList]
              exact hsz
          · cases hs
end Go.AI
