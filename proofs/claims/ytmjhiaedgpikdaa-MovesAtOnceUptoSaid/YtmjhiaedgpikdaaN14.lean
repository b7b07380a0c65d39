/- A part of a proof about moves one by one: what a function of the program answers. Own work. -/
import Derived.Test.YtmjhiaedgpikdaaN13
set_option linter.unusedSimpArgs false
set_option linter.unusedVariables false
namespace Go.Proofs.Ytmjhiaedgpikdaa
open Go.AI

def pl (cs : List Cell) : List Src := cs.map (·.1)
def updF (now : List Cell) (d : Src) (v : Int) : List Cell := now.map fun c => if c.1 = d then (c.1, v) else c
def runF : List Cell → List Move → List Cell
  | now, [] => now
  | now, m :: r => runF (updF now m.1 (heldF now m.2)) r
theorem pl_upd (now : List Cell) (d : Src) (v : Int) : pl (updF now d v) = pl now := by
  unfold pl updF
  rw [List.map_map]
  apply List.map_congr_left
  intro c _
  simp only [Function.comp]
  split <;> rfl
theorem pl_run : ∀ (rs : List Move) (now : List Cell), pl (runF now rs) = pl now
  | [], now => rfl
  | m :: r, now => by rw [runF, pl_run r, pl_upd]
theorem run_append : ∀ (a b : List Move) (now : List Cell), runF now (a ++ b) = runF (runF now a) b
  | [], b, now => rfl
  | m :: r, b, now => by rw [List.cons_append, runF, runF, run_append r b]
theorem held_upd {now : List Cell} {d p : Src} {v : Int} (hp : p ∈ pl now) : heldF (updF now d v) p = if p = d then v else heldF now p := by
  induction now with
  | nil => cases hp
  | cons c r ih =>
    have e : updF (c :: r) d v = (if c.1 = d then (c.1, v) else c) :: updF r d v := rfl
    rw [e, heldF]
    have e1 : (if c.1 = d then (c.1, v) else c).1 = c.1 := by split <;> rfl
    rw [e1, heldF]
    by_cases hc : c.1 = p
    · rw [if_pos hc, if_pos hc]
      by_cases hd : c.1 = d
      · rw [if_pos hd, if_pos (by rw [← hc]; exact hd)]
      · rw [if_neg hd, if_neg (by rw [← hc]; exact hd)]
    · rw [if_neg hc, if_neg hc]
      refine ih ?_
      rcases List.mem_cons.1 (show p ∈ c.1 :: pl r from hp) with h | h
      · exact absurd h.symm hc
      · exact h
theorem held_at {cs : List Cell} (hd : (pl cs).Nodup) {c : Cell} (hc : c ∈ cs) : heldF cs c.1 = c.2 := by
  induction cs with
  | nil => cases hc
  | cons d r ih =>
    have hd : (d.1 :: pl r).Nodup := hd
    rw [List.nodup_cons] at hd
    rw [heldF]
    rcases List.mem_cons.1 hc with rfl | hc
    · rw [if_pos rfl]
    · rw [if_neg (fun e => hd.1 (by rw [e]; exact List.mem_map.2 ⟨c, hc, rfl⟩)), ih hd.2 hc]
/-- What is known of the cells: no place twice, no number below 0. -/
structure Cells (cs : List Cell) : Prop where
  nodup : (pl cs).Nodup
  pos : ∀ c ∈ cs, 0 ≤ c.2
theorem Cells.held {cs : List Cell} (h : Cells cs) {s : Src} (hs : s ∈ pl cs) : 0 ≤ heldF cs s := by
  obtain ⟨c, hc, rfl⟩ := List.mem_map.1 hs
  rw [held_at h.nodup hc]
  exact h.pos c hc
theorem Cells.upd {cs : List Cell} (h : Cells cs) {d : Src} {v : Int} (hv : 0 ≤ v) : Cells (updF cs d v) := by
  refine ⟨by rw [pl_upd]; exact h.nodup, fun c hc => ?_⟩
  obtain ⟨x, hx, rfl⟩ := List.mem_map.1 hc
  split
  · exact hv
  · exact h.pos x hx
theorem Cells.run : ∀ {rs : List Move} {cs : List Cell}, Cells cs → (∀ m ∈ rs, m.2 ∈ pl cs) → Cells (runF cs rs)
  | [], cs, h, _ => h
  | m :: r, cs, h, hm => by
    rw [runF]
    exact Cells.run (h.upd (h.held (hm m List.mem_cons_self))) fun x hx => by rw [pl_upd]; exact hm x (List.mem_cons_of_mem _ hx)
theorem Cells.nil : Cells [] := ⟨List.nodup_nil, fun c hc => by cases hc⟩
theorem Cells.known {cs : List Cell} (h : Cells cs) (s : Src) : Cells (knownF cs s) ∧ s ∈ pl (knownF cs s) ∧ (∀ p ∈ pl cs, p ∈ pl (knownF cs s)) := by
  unfold knownF
  by_cases hh : heldF cs s ≥ 0
  · rw [if_pos hh]
    refine ⟨h, ?_, fun p hp => hp⟩
    rcases heldF_cases cs s with e | ⟨c, hc, e, _⟩
    · rw [e] at hh; omega
    · rw [← e]; exact List.mem_map.2 ⟨c, hc, rfl⟩
  · rw [if_neg hh]
    have hn : s ∉ pl cs := fun hs => hh (h.held hs)
    have hpl : pl (cs ++ [(s, 100 + (cs.length : Int))]) = pl cs ++ [s] := by unfold pl; rw [List.map_append]; rfl
    refine ⟨⟨?_, ?_⟩, ?_, ?_⟩
    · rw [hpl, List.nodup_append]
      refine ⟨h.nodup, by simp, ?_⟩
      intro a ha b hb
      rw [List.mem_singleton.1 hb]
      exact fun e => hn (by rw [← e]; exact ha)
    · intro c hc
      rcases List.mem_append.1 hc with hc | hc
      · exact h.pos c hc
      · rw [List.mem_singleton.1 hc]
        show 0 ≤ 100 + (cs.length : Int)
        omega
    · rw [hpl]; simp
    · rw [hpl]
      intro p hp
      exact List.mem_append_left _ hp
def allF (cs : List Cell) (ms : List Move) : List Cell := ms.foldl (fun cs m => knownF (knownF cs m.1) m.2) cs
theorem knownF_len (cs : List Cell) (s : Src) : (knownF cs s).length ≤ cs.length + 1 := by
  unfold knownF
  split
  · omega
  · rw [List.length_append]; exact Nat.le_refl _
theorem allF_len : ∀ (ms : List Move) (cs : List Cell), (allF cs ms).length ≤ cs.length + 2 * ms.length
  | [], cs => by simp [allF]
  | m :: r, cs => by
    have h1 := allF_len r (knownF (knownF cs m.1) m.2)
    have h2 := knownF_len cs m.1
    have h3 := knownF_len (knownF cs m.1) m.2
    have e : allF cs (m :: r) = allF (knownF (knownF cs m.1) m.2) r := rfl
    rw [e, List.length_cons]
    omega
theorem Cells.all : ∀ {ms : List Move} {cs : List Cell}, Cells cs → Cells (allF cs ms) ∧ (∀ m ∈ ms, m.1 ∈ pl (allF cs ms) ∧ m.2 ∈ pl (allF cs ms)) ∧ (∀ p ∈ pl cs, p ∈ pl (allF cs ms))
  | [], cs, h => ⟨h, fun m hm => (by cases hm), fun p hp => hp⟩
  | m :: r, cs, h => by
    obtain ⟨a1, a2, a3⟩ := h.known m.1
    obtain ⟨b1, b2, b3⟩ := a1.known m.2
    obtain ⟨d1, d2, d3⟩ := Cells.all (ms := r) b1
    have e : allF cs (m :: r) = allF (knownF (knownF cs m.1) m.2) r := rfl
    rw [e]
    refine ⟨d1, fun x hx => ?_, fun p hp => d3 p (b3 p (a3 p hp))⟩
    rcases List.mem_cons.1 hx with rfl | hx
    · exact ⟨d3 _ (b3 _ a2), d3 _ b2⟩
    · exact d2 x hx

theorem resolve_places (sc : Src) (P : List Src) (hsc : sc ∈ P) : ∀ (f : Nat) (left : List Move), (∀ m ∈ left, m.1 ∈ P ∧ m.2 ∈ P) → ∀ x ∈ resolveL sc f left [], x.1 ∈ P ∧ x.2 ∈ P
  | 0, left, _, x, hx => by simp [resolveL] at hx
  | f + 1, [], _, x, hx => by simp [resolveL] at hx
  | f + 1, m :: r, h, x, hx => by
    rw [resolveL] at hx
    by_cases hrd : readyI (m :: r) ≥ 0
    · rw [if_pos hrd] at hx
      obtain ⟨hi, _⟩ := readyI_lt hrd
      obtain ⟨z, hz⟩ : ∃ z, (m :: r)[(readyI (m :: r)).toNat]? = some z := ⟨_, List.getElem?_eq_getElem hi⟩
      simp only [hz] at hx
      rw [resolveL_out] at hx
      rcases List.mem_append.1 hx with hx | hx
      · rw [List.nil_append, List.mem_singleton] at hx
        rw [hx]
        exact h z (List.mem_of_getElem? hz)
      · exact resolve_places sc P hsc f _ (fun y hy => h y (List.mem_of_mem_eraseIdx hy)) x hx
    · rw [if_neg hrd, resolveL_out] at hx
      rcases List.mem_append.1 hx with hx | hx
      · rw [List.nil_append, List.mem_singleton] at hx
        rw [hx]
        exact ⟨hsc, (h m List.mem_cons_self).1⟩
      · refine resolve_places sc P hsc f _ (fun y hy => ?_) x hx
        obtain ⟨z, hz, rfl⟩ := List.mem_map.1 hy
        split
        · exact ⟨(h z hz).1, hsc⟩
        · exact h z hz

/-- AT ONCE: one by one, the moves bring to each place what its source held before. -/
theorem resolve_exec (sc : Src) (τ : Src → Int) : ∀ (f : Nat) (left : List Move) (now : List Cell), Left sc left → rounds left ≤ f → (∀ m ∈ left, m.1 ∈ pl now ∧ m.2 ∈ pl now) → sc ∈ pl now → (∀ m ∈ left, heldF now m.2 = τ m.1) →
    ∀ p, p ≠ sc → p ∈ pl now → heldF (runF now (resolveL sc f left [])) p = if p ∈ left.map (·.1) then τ p else heldF now p
  | 0, left, now, _, hf, _, _, _, p, _, _ => by
    have : left = [] := by
      unfold rounds at hf
      exact List.eq_nil_of_length_eq_zero (by omega)
    subst this
    rfl
  | f + 1, [], now, _, _, _, _, _, p, _, _ => by
    rw [resolveL]; rfl
  | f + 1, m :: r, now, hL, hf, hp, hsc, hτ, p, hps, hpn => by
    rw [resolveL]
    by_cases hrd : readyI (m :: r) ≥ 0
    · obtain ⟨hi, _⟩ := readyI_lt hrd
      obtain ⟨z, hz⟩ : ∃ z, (m :: r)[(readyI (m :: r)).toNat]? = some z := ⟨_, List.getElem?_eq_getElem hi⟩
      have hu := readyI_some hrd hz
      have hzm := List.mem_of_getElem? hz
      have hrl := rounds_ready hrd
      rw [if_pos hrd]
      generalize (readyI (m :: r)).toNat = i at *
      simp only [hz]
      rw [resolveL_out, List.nil_append, run_append]
      have e1 : runF now [z] = updF now z.1 (heldF now z.2) := rfl
      rw [e1]
      have hnz : ∀ x ∈ (m :: r).eraseIdx i, x.1 ≠ z.1 := by
        intro x hx e
        obtain ⟨j, hji, hj⟩ := List.mem_eraseIdx_iff_getElem?.1 hx
        have := nodup_ne hL.nodup hj hz
        rw [decide_eq_decide] at this
        exact this.2 hji e
      rw [resolve_exec sc τ f ((m :: r).eraseIdx i) (updF now z.1 (heldF now z.2)) (hL.erase i) (by omega) (fun x hx => by rw [pl_upd]; exact hp x (List.mem_of_mem_eraseIdx hx)) (by rw [pl_upd]; exact hsc) (fun x hx => ?_) p hps (by rw [pl_upd]; exact hpn), held_upd hpn]
      · by_cases hpz : p = z.1
        · subst hpz
          have hn : z.1 ∉ ((m :: r).eraseIdx i).map (·.1) := fun h => by
            obtain ⟨x, hx, e⟩ := List.mem_map.1 h
            exact hnz x hx e
          rw [if_neg hn, if_pos rfl, if_pos (List.mem_map.2 ⟨z, hzm, rfl⟩)]
          exact hτ z hzm
        · rw [if_neg hpz]
          have : (p ∈ ((m :: r).eraseIdx i).map (·.1)) ↔ (p ∈ (m :: r).map (·.1)) := by
            constructor
            · intro h
              obtain ⟨x, hx, e⟩ := List.mem_map.1 h
              exact List.mem_map.2 ⟨x, List.mem_of_mem_eraseIdx hx, e⟩
            · intro h
              obtain ⟨x, hx, e⟩ := List.mem_map.1 h
              exact List.mem_map.2 ⟨x, mem_erase_of hz hx (fun e2 => hpz (by rw [← e, e2])), e⟩
          simp only [this]
      · have hxm := List.mem_of_mem_eraseIdx hx
        have hxs : x.2 ≠ z.1 := by
          intro e
          have := usedF_iff.2 ⟨x, hxm, hnz x hx, e⟩
          rw [hu] at this
          cases this
        rw [held_upd (hp x hxm).2, if_neg hxs]
        exact hτ x hxm
    · have hall := readyI_none hrd
      have hrb := rounds_broken hL.nsc hrd
      have hfor := none_foreign hL.nodup hL.nsc hall
      rw [if_neg hrd, resolveL_out, List.nil_append, run_append]
      have e1 : runF now [(sc, m.1)] = updF now sc (heldF now m.1) := rfl
      rw [e1]
      rw [resolve_exec sc τ f (broken sc (m :: r) m.1) (updF now sc (heldF now m.1)) (hL.broken m.1) (by omega) (fun x hx => ?_) (by rw [pl_upd]; exact hsc) (fun x hx => ?_) p hps (by rw [pl_upd]; exact hpn), held_upd hpn, if_neg hps, broken_D]
      · rw [pl_upd]
        obtain ⟨z, hz, rfl⟩ := List.mem_map.1 hx
        split
        · exact ⟨(hp z hz).1, hsc⟩
        · exact hp z hz
      · obtain ⟨z, hz, rfl⟩ := List.mem_map.1 hx
        by_cases hzd : z.2 = m.1
        · rw [if_pos hzd]
          show heldF (updF now sc (heldF now m.1)) sc = τ z.1
          rw [held_upd hsc, if_pos rfl, ← hzd]
          exact hτ z hz
        · rw [if_neg hzd, held_upd (hp z hz).2, if_neg (hfor z hz)]
          exact hτ z hz

def wantF (cs : List Cell) (p : Src) : List Move → Int → Int
  | [], w => w
  | m :: r, w => wantF cs p r (if m.1 = p then heldF cs m.2 else w)
theorem wantF_append (cs : List Cell) (p : Src) : ∀ (a b : List Move) (w : Int), wantF cs p (a ++ b) w = wantF cs p b (wantF cs p a w)
  | [], b, w => rfl
  | m :: r, b, w => by rw [List.cons_append, wantF, wantF, wantF_append cs p r b]
theorem wantF_none (cs : List Cell) (p : Src) : ∀ (ms : List Move) (w : Int), (∀ m ∈ ms, m.1 ≠ p) → wantF cs p ms w = w
  | [], w, _ => rfl
  | m :: r, w, h => by rw [wantF, if_neg (h m List.mem_cons_self), wantF_none cs p r w fun x hx => h x (List.mem_cons_of_mem _ hx)]
theorem wantF_at (cs : List Cell) : ∀ (ms : List Move) (w : Int), (ms.map (·.1)).Nodup → ∀ m ∈ ms, wantF cs m.1 ms w = heldF cs m.2
  | [], w, _, m, hm => by cases hm
  | y :: r, w, hd, m, hm => by
    have hd : (y.1 :: r.map (·.1)).Nodup := hd
    rw [List.nodup_cons] at hd
    rw [wantF]
    rcases List.mem_cons.1 hm with rfl | hm
    · rw [if_pos rfl, wantF_none]
      intro x hx e
      exact hd.1 (by rw [← e]; exact List.mem_map.2 ⟨x, hx, rfl⟩)
    · exact wantF_at cs r _ hd.2 m hm
/-- What is to be held in the end. -/
theorem atOnce {sc : Src} {ms : List Move} (hr : rightF sc [sc] ms = true) {cs : List Cell} (hc : Cells cs) (hm : ∀ m ∈ ms, m.1 ∈ pl cs ∧ m.2 ∈ pl cs) (hsc : sc ∈ pl cs) {p : Src} (hp : p ∈ pl cs) (hps : p ≠ sc) :
    heldF (runF cs (resolveF sc ms)) p = wantF cs p ms (heldF cs p) := by
  have hfl : (ms.filter fun m => !decide (m.1 = m.2)).length ≤ ms.length := List.length_filter_le _ _
  have hrd := rounds_le (ms.filter fun m => !decide (m.1 = m.2))
  have hnd := (nodup_rightF hr).1
  unfold resolveF
  rw [resolve_exec sc (fun p => wantF cs p ms (heldF cs p)) _ _ cs (Left.of hr) (by omega) (fun m h => hm m (List.mem_filter.1 h).1) hsc (fun m h => (wantF_at cs ms _ hnd m (List.mem_filter.1 h).1).symm) p hps hp]
  split
  · rfl
  · rename_i hn
    by_cases he : ∃ m ∈ ms, m.1 = p
    · obtain ⟨m, hmm, rfl⟩ := he
      rw [wantF_at cs ms _ hnd m hmm]
      by_cases hds : m.1 = m.2
      · rw [← hds]
      · exact absurd (List.mem_map.2 ⟨m, List.mem_filter.2 ⟨hmm, by simp [hds]⟩, rfl⟩) hn
    · rw [wantF_none cs p ms _ fun m hmm e => he ⟨m, hmm, e⟩]
end Go.Proofs.Ytmjhiaedgpikdaa
