/- THE SECOND MACHINE, 25: maps by keys of one's own kind. Own work. -/
import Derived.Test.YtmjhiaedgpikdaaA24
set_option linter.unusedSimpArgs false
set_option linter.unusedVariables false
namespace Go.AI

/-- Keys, as values. -/
structure KeyEnc {K : Type} [DecidableEq K] (kn : List CK) (ag : Bool) (ek : K → AV) : Prop where
  ok : ∀ k, keyOk kn ag (ek k) = true
  agg : ∀ a, aggV (ek a) = ag
  eq : ∀ a b, cellsEq kn (ek a).cells (ek b).cells = some (decide (a = b))
section
variable {K : Type} [DecidableEq K] {kn : List CK} {ag : Bool} {ek : K → AV}
def encE (ek : K → AV) (l : List (K × AV × Nat)) : List (AV × AV × Nat) := l.map fun e => (ek e.1, e.2.1, e.2.2)
def findK (k : K) : List (K × AV × Nat) → Nat → Option (Nat × AV)
  | [], _ => none
  | (q, v, _) :: r, i => if k = q then some (i, v) else findK k r (i + 1)
theorem findKey_enc (h : KeyEnc kn ag ek) (k : K) : ∀ (l : List (K × AV × Nat)) (i : Nat), findKey kn (ek k) (encE ek l) i = some (findK k l i)
  | [], i => rfl
  | (q, v, b) :: r, i => by
    simp only [encE, List.map_cons, findKey, findK, h.agg, h.eq, if_true]
    by_cases e : k = q
    · simp [e]
    · simp only [e, decide_false, if_false]
      exact findKey_enc h k r (i + 1)
/-- The value of a key. -/
def valK (k : K) (l : List (K × AV × Nat)) : Option AV := (findK k l 0).map (·.2)
theorem findK_shift (k : K) : ∀ (l : List (K × AV × Nat)) (i : Nat), findK k l (i + 1) = (findK k l i).map fun p => (p.1 + 1, p.2)
  | [], i => rfl
  | (q, v, b) :: r, i => by
    unfold findK
    by_cases e : k = q
    · simp [e]
    · simp only [e, if_false]
      exact findK_shift k r (i + 1)
theorem findK_spec (k : K) : ∀ (l : List (K × AV × Nat)), (findK k l 0 = none ∧ ∀ e ∈ l, e.1 ≠ k) ∨ ∃ j e, findK k l 0 = some (j, e.2.1) ∧ l[j]? = some e ∧ e.1 = k ∧ ∀ i e', i < j → l[i]? = some e' → e'.1 ≠ k
  | [] => .inl ⟨rfl, fun e h => by cases h⟩
  | (q, v, b) :: r => by
    by_cases e : k = q
    · subst e
      exact .inr ⟨0, (k, v, b), by simp [findK], rfl, rfl, fun i e' h => by omega⟩
    · have hs := findK_shift k r 0
      rw [Nat.zero_add] at hs
      rcases findK_spec k r with ⟨h1, h2⟩ | ⟨j, x, h1, h2, h3, h4⟩
      · refine .inl ⟨by simp only [findK, e, if_false, Nat.zero_add, hs, h1]; rfl, ?_⟩
        intro y hy
        rcases List.mem_cons.1 hy with rfl | hy
        · exact fun h => e h.symm
        · exact h2 y hy
      · refine .inr ⟨j + 1, x, by simp only [findK, e, if_false, Nat.zero_add, hs, h1]; rfl, by simpa using h2, h3, ?_⟩
        intro i e' hi hl
        cases i with
        | zero => simp at hl; subst hl; exact fun h => e h.symm
        | succ i => exact h4 i e' (by omega) (by simpa using hl)
theorem findK_none {k : K} {l : List (K × AV × Nat)} (h : ∀ e ∈ l, e.1 ≠ k) : findK k l 0 = none := by
  rcases findK_spec k l with ⟨h1, _⟩ | ⟨j, e, h1, h2, h3, _⟩
  · exact h1
  · exact absurd h3 (h e (List.mem_of_getElem? h2))
theorem findK_at {k : K} {l : List (K × AV × Nat)} {j : Nat} {e : K × AV × Nat} (h : l[j]? = some e) (hk : e.1 = k) (hb : ∀ i e', i < j → l[i]? = some e' → e'.1 ≠ k) : findK k l 0 = some (j, e.2.1) := by
  rcases findK_spec k l with ⟨_, h2⟩ | ⟨j', e', h1, h2, h3, h4⟩
  · exact absurd hk (h2 e (List.mem_of_getElem? h))
  · have : j = j' := by
      rcases Nat.lt_trichotomy j j' with h' | h' | h'
      · exact absurd hk (h4 j e h' h)
      · exact h'
      · exact absurd h3 (hb j' e' h' h2)
    subst this
    rw [h2] at h
    cases h
    exact h1

/-- A map of one's own. -/
structure MapK (ek : K → AV) (H : AHeap) (i : Nat) (l : List (K × AV × Nat)) (c : Nat) : Prop where
  get : H.get (.n i) = some (.map (encE ek l) c)
  born : ∀ e ∈ l, e.2.2 < c
  uniq : (l.map (·.2.2)).Nodup
 omit [DecidableEq K] in
theorem MapK.lt {H : AHeap} {i : Nat} {l : List (K × AV × Nat)} {c : Nat} (h : MapK ek H i l c) : i < H.next := AHeap.get_lt h.get
 omit [DecidableEq K] in
theorem MapK.but {H G : AHeap} {i : Nat} {l : List (K × AV × Nat)} {c : Nat} {own : Option Nat} (h : MapK ek H i l c) (b : But own H G) (hne : own ≠ some i) : MapK ek G i l c := ⟨(b.keep i h.lt hne).trans h.get, h.born, h.uniq⟩
 omit [DecidableEq K] in
theorem MapK.grow {H G : AHeap} {i : Nat} {l : List (K × AV × Nat)} {c : Nat} (h : MapK ek H i l c) (g : Grow H G) : MapK ek G i l c := ⟨g.get h.get, h.born, h.uniq⟩
 omit [DecidableEq K] in
theorem MapK.new (H : AHeap) : MapK ek (H.alloc (.map [] 0)) H.next [] 0 := ⟨by rw [AHeap.get_alloc, if_pos rfl]; rfl, fun e h => (by cases h), List.nodup_nil⟩
theorem setN_but (H : AHeap) (i : Nat) (b : ABlk) : But (some i) H (H.setN i b) :=
  ⟨Nat.le_refl _, fun n => AHeap.get_setN_ne _ _ (by intro e; cases e), fun k _ hne => AHeap.get_setN_ne _ _ (by intro e; injection e with e; exact hne (by rw [e]))⟩

variable {H : AHeap} {i : Nat} {l : List (K × AV × Nat)} {c : Nat}
def valOr (z : AV) (o : Option (Nat × AV)) : AV :=
  match o with
  | some (_, v) => v
  | none => z
theorem MapK.lookup (h : MapK ek H i l c) (he : KeyEnc kn ag ek) (z : AV) (q : K) : lookupF z kn ag false (.map (.n i)) (ek q) H = some (valOr z (findK q l 0), H) := by
  simp only [lookupF, opF, ev, he.ok, if_true, h.get, findKey_enc he]
  cases findK q l 0 <;> rfl
theorem MapK.setNew (h : MapK ek H i l c) (he : KeyEnc kn ag ek) (u : AV) {q : K} (hq : findK q l 0 = none) :
    ∃ H', mapSetF kn ag (.map (.n i)) (ek q) u H = some (.undef, H') ∧ MapK ek H' i (l ++ [(q, u, c)]) (c + 1) ∧ But (some i) H H' := by
  refine ⟨H.setN i (.map (encE ek l ++ [(ek q, u, c)]) (c + 1)), ?_, ⟨?_, ?_, ?_⟩, setN_but _ _ _⟩
  · simp only [mapSetF, opF, ev, he.ok, if_true, h.get, findKey_enc he, hq]
  · rw [AHeap.get_setN _ _ _ h.lt, if_pos rfl]
    simp [encE]
  · intro e hm
    rcases List.mem_append.1 hm with hm | hm
    · have := h.born e hm; omega
    · simp at hm; subst hm; simp
  · rw [List.map_append, List.nodup_append]
    refine ⟨h.uniq, by simp, ?_⟩
    intro a ha b hb
    simp at hb
    subst hb
    obtain ⟨e, he', rfl⟩ := List.mem_map.1 ha
    have := h.born e he'
    omega
/-- A key that is not there yet is put. -/
theorem MapK.entryNew (h : MapK ek H i l c) (he : KeyEnc kn ag ek) (z : AV) {q : K} (hq : findK q l 0 = none) :
    ∃ H', mapEntryF z kn ag (.map (.n i)) (ek q) H = some (.tuple [z, .int .i64 c], H') ∧ MapK ek H' i (l ++ [(q, z, c)]) (c + 1) ∧ But (some i) H H' := by
  refine ⟨H.setN i (.map (encE ek l ++ [(ek q, z, c)]) (c + 1)), ?_, ⟨?_, ?_, ?_⟩, setN_but _ _ _⟩
  · simp only [mapEntryF, opF, ev, he.ok, if_true, h.get, findKey_enc he, hq]
  · rw [AHeap.get_setN _ _ _ h.lt, if_pos rfl]
    simp [encE]
  · intro e hm
    rcases List.mem_append.1 hm with hm | hm
    · have := h.born e hm; omega
    · simp at hm; subst hm; simp
  · rw [List.map_append, List.nodup_append]
    refine ⟨h.uniq, by simp, ?_⟩
    intro a ha b hb
    simp at hb
    subst hb
    obtain ⟨e, he', rfl⟩ := List.mem_map.1 ha
    have := h.born e he'
    omega
/-- A key that is there. -/
theorem MapK.entryOld (h : MapK ek H i l c) (he : KeyEnc kn ag ek) (z : AV) {q : K} {j : Nat} {e : K × AV × Nat} (hq : findK q l 0 = some (j, e.2.1)) (hj : l[j]? = some e) (hek : e.1 = q) :
    ∃ H', mapEntryF z kn ag (.map (.n i)) (ek q) H = some (.tuple [e.2.1, .int .i64 e.2.2], H') ∧ MapK ek H' i l c ∧ But (some i) H H' := by
  have hj' : (encE ek l)[j]? = some (ek e.1, e.2.1, e.2.2) := by simp [encE, hj]
  refine ⟨H.setN i (.map ((encE ek l).modify j fun e => (ek q, e.2)) c), ?_, ⟨?_, h.born, h.uniq⟩, setN_but _ _ _⟩
  · simp only [mapEntryF, opF, ev, he.ok, if_true, h.get, findKey_enc he, hq, hj']
  · rw [AHeap.get_setN _ _ _ h.lt, if_pos rfl]
    congr 2
    apply List.ext_getElem?
    intro p
    rw [List.getElem?_modify]
    by_cases hp : j = p
    · subst hp
      rw [hj']
      simp [hek]
    · simp [hp]
 omit [DecidableEq K] in
/-- An entry's value is written. -/
theorem MapK.entrySet (h : MapK ek H i l c) (u : AV) {j : Nat} {e : K × AV × Nat} (hj : l[j]? = some e) :
    ∃ H', entryStoreF (.map (.n i)) (.int .i64 e.2.2) u H = some (.undef, H') ∧ MapK ek H' i (l.modify j fun e => (e.1, u, e.2.2)) c ∧ But (some i) H H' := by
  have hf : (encE ek l).findIdx? (fun x => decide ((x.2.2 : Int) = (e.2.2 : Int))) = some j := by
    rw [List.findIdx?_eq_some_iff_getElem]
    have hlt := (List.getElem?_eq_some_iff.1 hj).1
    refine ⟨by simpa [encE] using hlt, ?_, ?_⟩
    · simp [encE, (List.getElem?_eq_some_iff.1 hj).2]
    · intro p hp
      simp only [encE, List.getElem_map, decide_eq_true_eq, Int.ofNat_inj]
      intro e1
      have e2 : (l.map (·.2.2))[p]? = (l.map (·.2.2))[j]? := by
        rw [List.getElem?_map, List.getElem?_map, hj, List.getElem?_eq_getElem (by omega)]
        simp [e1]
      have := (List.getElem?_inj (by rw [List.length_map]; omega) h.uniq).1 e2
      omega
  refine ⟨H.setN i (.map ((encE ek l).modify j fun e => (e.1, u, e.2.2)) c), ?_, ⟨?_, ?_, ?_⟩, setN_but _ _ _⟩
  · simp only [entryStoreF, opF, ev, h.get, hf]
  · rw [AHeap.get_setN _ _ _ h.lt, if_pos rfl]
    congr 2
    apply List.ext_getElem?
    intro p
    simp only [encE, List.getElem?_modify, List.getElem?_map]
    by_cases hp : j = p
    · subst hp; simp [hj]
    · simp [hp]
  · intro x hx
    obtain ⟨p, hp⟩ := List.mem_iff_getElem?.1 hx
    rw [List.getElem?_modify] at hp
    cases hq : l[p]? with
    | none => rw [hq] at hp; simp at hp
    | some y =>
      rw [hq] at hp
      have := h.born y (List.mem_of_getElem? hq)
      by_cases e3 : j = p
      · simp [e3] at hp; subst hp; exact this
      · simp [e3] at hp; subst hp; exact this
  · have e4 : (l.modify j fun e => (e.1, u, e.2.2)).map (·.2.2) = l.map (·.2.2) := by
      apply List.ext_getElem?
      intro p
      simp only [List.getElem?_map, List.getElem?_modify]
      by_cases hp : j = p
      · subst hp; simp [hj]
      · simp [hp]
    rw [e4]
    exact h.uniq
end
end Go.AI
