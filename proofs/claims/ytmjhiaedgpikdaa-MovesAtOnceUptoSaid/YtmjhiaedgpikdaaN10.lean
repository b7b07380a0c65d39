/- A part of a proof about moves one by one: what a function of the program answers. Own work. -/
import Derived.Test.YtmjhiaedgpikdaaN9
set_option linter.unusedSimpArgs false
set_option linter.unusedVariables false
namespace Go.Proofs.Ytmjhiaedgpikdaa
open Go.AI

/-! ### how many moves are done -/
theorem subset_full {α : Type} [DecidableEq α] : ∀ {a b : List α}, a.Nodup → a ⊆ b → b.length ≤ a.length → b ⊆ a
  | [], b, _, _, hl => by
    have : b = [] := List.eq_nil_of_length_eq_zero (by simpa using hl)
    rw [this]
    exact fun x hx => hx
  | x :: a, b, hd, hs, hl => by
    rw [List.nodup_cons] at hd
    have hx : x ∈ b := hs List.mem_cons_self
    have hs' : a ⊆ b.erase x := by
      intro y hy
      have hne : y ≠ x := fun e => hd.1 (by rw [← e]; exact hy)
      exact (List.mem_erase_of_ne hne).2 (hs (List.mem_cons_of_mem _ hy))
    have hlen : (b.erase x).length ≤ a.length := by
      rw [List.length_erase_of_mem hx]
      simp only [List.length_cons] at hl
      omega
    have := subset_full hd.2 hs' hlen
    intro y hy
    by_cases e : y = x
    · rw [e]; exact List.mem_cons_self
    · exact List.mem_cons_of_mem _ (this ((List.mem_erase_of_ne e).2 hy))

theorem readyI_none {left : List Move} (h : ¬ readyI left ≥ 0) : ∀ m ∈ left, usedF left m = true := by
  rcases readyI_cases left with ⟨_, hb⟩ | ⟨i, x, e, _⟩
  · exact hb
  · rw [e] at h; omega
theorem readyI_some {left : List Move} {x : Move} (h : readyI left ≥ 0) (hx : left[(readyI left).toNat]? = some x) : usedF left x = false := by
  rcases readyI_cases left with ⟨e, _⟩ | ⟨i, y, e, hy, hu⟩
  · rw [e] at h; omega
  · rw [e, Int.toNat_natCast, hy] at hx
    cases hx
    exact hu
theorem usedF_iff {left : List Move} {m : Move} : usedF left m = true ↔ ∃ x ∈ left, x.1 ≠ m.1 ∧ x.2 = m.1 := by
  unfold usedF
  rw [List.any_eq_true]
  simp only [Bool.and_eq_true, decide_eq_true_eq]
/-- Where each is used, none takes from a place that is none of them. -/
theorem none_foreign {left : List Move} {s : Src} (hd : (left.map (·.1)).Nodup) (hs : ∀ x ∈ left, x.1 ≠ s) (h : ∀ m ∈ left, usedF left m = true) : ∀ x ∈ left, x.2 ≠ s := by
  have hsub : left.map (·.1) ⊆ left.map (·.2) := by
    intro d hd
    obtain ⟨m, hm, rfl⟩ := List.mem_map.1 hd
    obtain ⟨x, hx, _, e⟩ := usedF_iff.1 (h m hm)
    exact List.mem_map.2 ⟨x, hx, e⟩
  have := subset_full hd hsub (by simp)
  intro x hx e
  obtain ⟨y, hy, e2⟩ := List.mem_map.1 (this (List.mem_map.2 ⟨x, hx, e⟩))
  exact hs y hy e2

/-- What is known of the moves that are left. -/
structure Left (sc : Src) (left : List Move) : Prop where
  nodup : (left.map (·.1)).Nodup
  nsc : ∀ x ∈ left, x.1 ≠ sc
  ne : ∀ x ∈ left, x.1 ≠ x.2
theorem Left.erase {sc : Src} {left : List Move} (h : Left sc left) (i : Nat) : Left sc (left.eraseIdx i) :=
  ⟨List.Nodup.sublist (List.Sublist.map _ (List.eraseIdx_sublist _ _)) h.nodup, fun x hx => h.nsc x (List.mem_of_mem_eraseIdx hx), fun x hx => h.ne x (List.mem_of_mem_eraseIdx hx)⟩
theorem Left.broken {sc : Src} {left : List Move} (h : Left sc left) (d : Src) : Left sc (broken sc left d) := by
  refine ⟨by rw [broken_D]; exact h.nodup, ?_, ?_⟩
  · intro y hy
    obtain ⟨z, hz, rfl⟩ := List.mem_map.1 hy
    have := h.nsc z hz
    split <;> exact this
  · intro y hy
    obtain ⟨z, hz, rfl⟩ := List.mem_map.1 hy
    split
    · exact h.nsc z hz
    · exact h.ne z hz
theorem Left.of {sc : Src} {ms : List Move} (hr : rightF sc [sc] ms = true) : Left sc (ms.filter fun m => !decide (m.1 = m.2)) :=
  ⟨List.Nodup.sublist (List.Sublist.map _ List.filter_sublist) (nodup_rightF hr).1, fun x hx => rightF_ne (List.mem_singleton_self _) hr x (List.mem_filter.1 hx).1, fun x hx => by
    have := (List.mem_filter.1 hx).2
    simpa using this⟩
theorem same_D {left : List Move} (hd : (left.map (·.1)).Nodup) {x y : Move} (hx : x ∈ left) (hy : y ∈ left) (e : x.1 = y.1) : x = y := by
  obtain ⟨i, hi⟩ := List.mem_iff_getElem?.1 hx
  obtain ⟨j, hj⟩ := List.mem_iff_getElem?.1 hy
  have := nodup_ne hd hi hj
  rw [decide_eq_decide] at this
  by_cases h : i = j
  · subst h; rw [hi] at hj; exact (Option.some.inj hj)
  · exact absurd e (this.2 h)
theorem mem_erase_of {α : Type} {l : List α} {i : Nat} {x z : α} (hi : l[i]? = some z) (hx : x ∈ l) (hne : x ≠ z) : x ∈ l.eraseIdx i := by
  obtain ⟨j, hj⟩ := List.mem_iff_getElem?.1 hx
  rw [List.mem_eraseIdx_iff_getElem?]
  exact ⟨j, fun e => hne (by rw [e] at hj; rw [hi] at hj; exact (Option.some.inj hj).symm), hj⟩

theorem resolve_few (sc : Src) : ∀ (f : Nat) (left : List Move), Left sc left → rounds left ≤ f →
    left.length ≤ (resolveL sc f left []).length ∧ (∀ x ∈ resolveL sc f left [], x.1 ≠ x.2) ∧ 2 * (resolveL sc f left []).length ≤ 3 * left.length ∧
    ((∃ x ∈ left, x.2 = sc) → 2 * (resolveL sc f left []).length + 1 ≤ 3 * left.length) ∧
    ((∃ x ∈ left, x.2 = sc ∧ ∃ y ∈ left, y.2 = x.1) → 2 * (resolveL sc f left []).length + 2 ≤ 3 * left.length)
  | 0, left, _, hf => by
    have : left = [] := by
      unfold rounds at hf
      exact List.eq_nil_of_length_eq_zero (by omega)
    subst this
    refine ⟨by simp, fun x hx => by simp [resolveL] at hx, by simp [resolveL], ?_, ?_⟩
    · rintro ⟨x, hx, _⟩; cases hx
    · rintro ⟨x, hx, _⟩; cases hx
  | f + 1, [], _, _ => by
    refine ⟨by simp, fun x hx => by simp [resolveL] at hx, by simp [resolveL], ?_, ?_⟩
    · rintro ⟨x, hx, _⟩; cases hx
    · rintro ⟨x, hx, _⟩; cases hx
  | f + 1, m :: r, hL, hf => by
    rw [resolveL]
    by_cases hrd : readyI (m :: r) ≥ 0
    · obtain ⟨hi, _⟩ := readyI_lt hrd
      obtain ⟨z, hz⟩ : ∃ z, (m :: r)[(readyI (m :: r)).toNat]? = some z := ⟨_, List.getElem?_eq_getElem hi⟩
      have hu := readyI_some hrd hz
      have hzm := List.mem_of_getElem? hz
      have hrl := rounds_ready hrd
      rw [if_pos hrd]
      generalize (readyI (m :: r)).toNat = i at *
      simp only [hz]
      rw [resolveL_out]
      obtain ⟨h1, h2, h3, h4, h5⟩ := resolve_few sc f ((m :: r).eraseIdx i) (hL.erase i) (by omega)
      have hlen : ((m :: r).eraseIdx i).length + 1 = (m :: r).length := by
        rw [List.length_eraseIdx, if_pos hi]
        omega
      simp only [List.nil_append, List.length_append, List.length_singleton]
      refine ⟨by omega, ?_, by omega, fun _ => by omega, ?_⟩
      · intro x hx
        rcases List.mem_append.1 hx with hx | hx
        · rw [List.mem_singleton.1 hx]; exact hL.ne z hzm
        · exact h2 x hx
      · rintro ⟨x, hx, e, y, hy, e2⟩
        have hne : x ≠ z := by
          rintro rfl
          have hyx : y.1 ≠ x.1 := by
            intro e3
            have := same_D hL.nodup hy hx e3
            subst this
            exact hL.ne y hy e2.symm
          have := usedF_iff.2 ⟨y, hy, hyx, e2⟩
          rw [hu] at this
          cases this
        have := h4 ⟨x, mem_erase_of hz hx hne, e⟩
        omega
    · have hall := readyI_none hrd
      have hrb := rounds_broken hL.nsc hrd
      rw [if_neg hrd, resolveL_out]
      obtain ⟨h1, h2, h3, h4, h5⟩ := resolve_few sc f (broken sc (m :: r) m.1) (hL.broken m.1) (by omega)
      have hlen : (broken sc (m :: r) m.1).length = (m :: r).length := by simp [broken]
      have hfor := none_foreign hL.nodup hL.nsc hall
      obtain ⟨x0, hx0, hx1, hx2⟩ := usedF_iff.1 (hall m List.mem_cons_self)
      obtain ⟨y, hy, hy1, hy2⟩ := usedF_iff.1 (hall x0 hx0)
      have hx' : (x0.1, sc) ∈ broken sc (m :: r) m.1 := List.mem_map.2 ⟨x0, hx0, by rw [if_pos hx2]⟩
      have hy' : y ∈ broken sc (m :: r) m.1 := List.mem_map.2 ⟨y, hy, by rw [if_neg (by rw [hy2]; exact hx1)]⟩
      have h6 := h5 ⟨_, hx', rfl, y, hy', hy2⟩
      simp only [List.nil_append, List.length_append, List.length_singleton]
      refine ⟨by omega, ?_, by omega, ?_, ?_⟩
      · intro x hx
        rcases List.mem_append.1 hx with hx | hx
        · rw [List.mem_singleton.1 hx]; exact fun e => hL.nsc m List.mem_cons_self e.symm
        · exact h2 x hx
      · rintro ⟨x, hx, e⟩; exact absurd e (hfor x hx)
      · rintro ⟨x, hx, e, _⟩; exact absurd e (hfor x hx)
theorem resolveF_few {sc : Src} {ms : List Move} (hr : rightF sc [sc] ms = true) :
    (ms.filter fun m => !decide (m.1 = m.2)).length ≤ (resolveF sc ms).length ∧ (∀ x ∈ resolveF sc ms, x.1 ≠ x.2) ∧ 2 * (resolveF sc ms).length ≤ 3 * (ms.filter fun m => !decide (m.1 = m.2)).length := by
  have hfl : (ms.filter fun m => !decide (m.1 = m.2)).length ≤ ms.length := List.length_filter_le _ _
  have := rounds_le (ms.filter fun m => !decide (m.1 = m.2))
  obtain ⟨h1, h2, h3, _⟩ := resolve_few sc (2 * ms.length + 2) _ (Left.of hr) (by omega)
  exact ⟨h1, h2, h3⟩
end Go.Proofs.Ytmjhiaedgpikdaa
