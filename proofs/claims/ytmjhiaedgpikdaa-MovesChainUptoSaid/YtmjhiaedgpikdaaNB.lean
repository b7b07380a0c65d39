/- A part of a proof about moves one by one: what a function of the program answers. Own work. -/
import Derived.Test.YtmjhiaedgpikdaaN10
set_option linter.unusedSimpArgs false
set_option linter.unusedVariables false
namespace Go.Proofs.Ytmjhiaedgpikdaa
open Go.AI
def rg (n : Nat) : Src := (0, n, 0)
def chA (m : Nat) : List Move := (List.range m).map fun i => (rg i, rg (i + 1))
def chB (m : Nat) : List Move := (List.range m).map fun i => (rg (i + 1), rg i)
def chC (m q i : Nat) : List Move := (List.range i).map fun i => (rg i, rg ((i + 1 + q) % m))
theorem chA_run : ((List.range 33).all fun m => rightF (rg 99) [rg 99] (chA m) && decide (resolveF (rg 99) (chA m) = chA m)) = true := by kernel_rfl
theorem chB_run : ((List.range 33).all fun m => rightF (rg 99) [rg 99] (chB m) && decide (resolveF (rg 99) (chB m) = (chB m).reverse)) = true := by kernel_rfl
theorem rightF_swap {sc : Src} : ∀ {l k : List Move} {seen : List Src}, l.map (·.1) = k.map (·.1) → (∀ x ∈ l, x.2 ≠ sc ∧ ¬ x.2.1 < 0 ∧ ¬ 3 < x.2.1) → rightF sc seen k = true → rightF sc seen l = true
  | [], [], _, _, _, h => h
  | [], _ :: _, _, e, _, _ => by cases e
  | _ :: _, [], _, e, _, _ => by cases e
  | x :: l, y :: k, seen, e, hx, h => by
    simp only [List.map_cons, List.cons.injEq] at e
    obtain ⟨h1, h2, h3⟩ := hx x List.mem_cons_self
    simp only [rightF, okMove, Bool.and_eq_true, Bool.not_eq_true', decide_eq_false_iff_not] at h ⊢
    rw [e.1]
    exact ⟨⟨⟨⟨⟨h.1.1.1.1.1, h.1.1.1.1.2⟩, h1⟩, h2⟩, h3⟩, rightF_swap e.2 (fun z hz => hx z (List.mem_cons_of_mem _ hz)) h.2⟩
theorem chA_ok {m : Nat} (h : m ≤ 32) : rightF (rg 99) [rg 99] (chA m) = true ∧ resolveF (rg 99) (chA m) = chA m := by
  have := List.all_eq_true.1 chA_run m (List.mem_range.2 (by omega))
  rw [Bool.and_eq_true] at this
  exact ⟨this.1, of_decide_eq_true this.2⟩
theorem chB_ok {m : Nat} (h : m ≤ 32) : rightF (rg 99) [rg 99] (chB m) = true ∧ resolveF (rg 99) (chB m) = (chB m).reverse := by
  have := List.all_eq_true.1 chB_run m (List.mem_range.2 (by omega))
  rw [Bool.and_eq_true] at this
  exact ⟨this.1, of_decide_eq_true this.2⟩
theorem chC_ok {m q : Nat} (h : m ≤ 32) (h0 : 0 < m) : rightF (rg 99) [rg 99] (chC m q m) = true := by
  refine rightF_swap (k := chA m) ?_ ?_ (chA_ok h).1
  · simp [chA, chC]
  · intro x hx
    obtain ⟨i, _, rfl⟩ := List.mem_map.1 hx
    have := Nat.mod_lt (i + 1 + q) h0
    refine ⟨?_, by simp [rg], by simp [rg]⟩
    intro e
    have e2 := congrArg (fun s : Src => s.2.1) e
    simp only [rg] at e2
    omega
theorem chC_few {m q : Nat} (h : m ≤ 32) (h0 : 0 < m) : (resolveF (rg 99) (chC m q m)).length ≤ m + m / 2 := by
  obtain ⟨_, _, h3⟩ := resolveF_few (chC_ok (q := q) h h0)
  have : ((chC m q m).filter fun m => !decide (m.1 = m.2)).length ≤ m := by
    refine Nat.le_trans (List.length_filter_le _ _) ?_
    simp [chC]
  omega
end Go.Proofs.Ytmjhiaedgpikdaa
