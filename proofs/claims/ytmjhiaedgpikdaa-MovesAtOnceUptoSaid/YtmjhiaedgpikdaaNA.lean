/- A part of a proof about moves one by one: what a function of the program answers. Own work. -/
import Derived.Test.YtmjhiaedgpikdaaN5
set_option linter.unusedSimpArgs false
set_option linter.unusedVariables false
namespace Go.Proofs.Ytmjhiaedgpikdaa
open Go.AI
theorem nodup_ne {left : List Move} (hd : (left.map (·.1)).Nodup) {i j : Nat} {x y : Move} (hi : left[i]? = some x) (hj : left[j]? = some y) : decide (x.1 ≠ y.1) = decide (i ≠ j) := by
  obtain ⟨hi', hx⟩ := List.getElem?_eq_some_iff.1 hi
  obtain ⟨hj', hy⟩ := List.getElem?_eq_some_iff.1 hj
  rw [decide_eq_decide]
  constructor
  · rintro h rfl; rw [hi] at hj; cases hj; exact h rfl
  · intro h e
    have hp := List.pairwise_iff_getElem.1 hd
    rcases Nat.lt_or_gt_of_ne h with hl | hl
    · have := hp i j (by simpa using hi') (by simpa using hj') hl
      simp only [List.getElem_map, hx, hy] at this
      exact this e
    · have := hp j i (by simpa using hj') (by simpa using hi') hl
      simp only [List.getElem_map, hx, hy] at this
      exact this e.symm

theorem nodup_rightF {sc : Src} : ∀ {ms : List Move} {seen : List Src}, rightF sc seen ms = true → (ms.map (·.1)).Nodup ∧ ∀ x ∈ ms, x.1 ∉ seen
  | [], _, _ => ⟨List.nodup_nil, fun x hx => by cases hx⟩
  | m :: r, seen, h => by
    simp only [rightF, okMove, Bool.and_eq_true, Bool.not_eq_true', decide_eq_false_iff_not] at h
    obtain ⟨h1, h2⟩ := nodup_rightF h.2
    refine ⟨?_, ?_⟩
    · rw [List.map_cons, List.nodup_cons]
      refine ⟨?_, h1⟩
      intro hm
      obtain ⟨y, hy, he⟩ := List.mem_map.1 hm
      exact h2 y hy (by rw [he]; exact List.mem_cons_self)
    · intro x hx
      rcases List.mem_cons.1 hx with rfl | hx
      · exact h.1.1.1.1.2
      · exact fun hin => h2 x hx (List.mem_cons_of_mem _ hin)
theorem broken_D (sc : Src) (left : List Move) (d : Src) : (broken sc left d).map (·.1) = left.map (·.1) := by
  unfold broken
  rw [List.map_map]
  apply List.map_congr_left
  intro m _
  simp only [Function.comp]
  split <;> rfl

theorem pd_of {E : DEnv} {n : Nat} {f : FuncId} {args : List AV} {d : AV} (h : (callD E n 0 f args []).bind (fun p => frz p.2 0 p.1) = some d) : pd E f args = some d := by
  cases hc : callD E n 0 f args [] with
  | none => rw [hc] at h; cases h
  | some p =>
    rw [hc] at h
    unfold pd
    rw [cd_of hc]
    exact h
theorem awake_p : pd env 8 [] = some (.bool true) := pd_of (n := 60) (by kernel_rfl)
theorem awake_c (fl : Nat) (L : DHeap) : callV env (cd env) fl (.func 8 [] []) [] L = some (.bool true, L) := callV_P rfl (snaps_pur _ rfl) awake_p

theorem resolveL_len (sc : Src) : ∀ (f : Nat) (left out : List Move), (resolveL sc f left out).length ≤ out.length + f
  | 0, left, out => by simp [resolveL]
  | f + 1, [], out => by simp [resolveL]
  | f + 1, m :: r, out => by
    rw [resolveL]
    split
    · split
      · have := resolveL_len sc f ((m :: r).eraseIdx (readyI (m :: r)).toNat) (out ++ [‹Move›])
        rw [List.length_append, List.length_singleton] at this
        omega
      · omega
    · have := resolveL_len sc f (broken sc (m :: r) m.1) (out ++ [(sc, m.1)])
      rw [List.length_append, List.length_singleton] at this
      omega
theorem resolveF_len (sc : Src) (ms : List Move) : (resolveF sc ms).length ≤ 2 * ms.length + 2 := by
  have := resolveL_len sc (2 * ms.length + 2) (ms.filter fun m => !decide (m.1 = m.2)) []
  rw [List.length_nil, Nat.zero_add] at this
  exact this

end Go.Proofs.Ytmjhiaedgpikdaa
