/- THE DATA MACHINE, 12: maps by keys of one's own kind. Own work. -/
import Derived.Test.YtmjhiaedgpikdaaB11
import Derived.Test.YtmjhiaedgpikdaaA25
set_option linter.unusedSimpArgs false
set_option linter.unusedVariables false
namespace Go.AI

section
variable {K : Type} [DecidableEq K] {kn : List CK} {ag : Bool} {ek : K → AV}
/-- A map of one's own. -/
structure MapD (ek : K → AV) (L : DHeap) (i : Nat) (l : List (K × AV × Nat)) (c : Nat) : Prop where
  get : hget L i = some (.map (encE ek l) c)
  born : ∀ e ∈ l, e.2.2 < c
  uniq : (l.map (·.2.2)).Nodup
variable {L M : DHeap} {i : Nat} {l : List (K × AV × Nat)} {c : Nat}
 omit [DecidableEq K] in
theorem MapD.lt (h : MapD ek L i l c) : i < L.length := hget_lt h.get
 omit [DecidableEq K] in
theorem MapD.of_get (h : MapD ek L i l c) (hg : hget M i = hget L i) : MapD ek M i l c := ⟨hg.trans h.get, h.born, h.uniq⟩
 omit [DecidableEq K] in
theorem MapD.kept (h : MapD ek L i l c) (hk : Kept L M) : MapD ek M i l c := ⟨hk.get h.get, h.born, h.uniq⟩
 omit [DecidableEq K] in
theorem MapD.turn {q : Nat} (h : MapD ek L i l c) (ht : Turn q L M) (hne : i ≠ q) : MapD ek M i l c := h.of_get (ht.get h.lt hne)
 omit [DecidableEq K] in
theorem MapD.new (L : DHeap) : MapD ek (halloc L (.map [] 0)) L.length [] 0 := ⟨by rw [hget_halloc, if_pos rfl]; rfl, fun e h => (by cases h), List.nodup_nil⟩
theorem MapD.look (h : MapD ek L i l c) (he : KeyEnc kn ag ek) (z : AV) (q : K) : lookD z kn ag false L (.map (.n i)) (ek q) = some (valOr z (findK q l 0)) := by
  simp only [lookD, he.ok, if_true, entries, h.get, findKey_enc he]
  cases findK q l 0 <;> rfl
theorem MapD.look2 (h : MapD ek L i l c) (he : KeyEnc kn ag ek) (z : AV) (q : K) : lookD z kn ag true L (.map (.n i)) (ek q) = some (.tuple [valOr z (findK q l 0), .bool (findK q l 0).isSome]) := by
  simp only [lookD, he.ok, if_true, entries, h.get, findKey_enc he]
  cases findK q l 0 <;> rfl
 omit [DecidableEq K] in
theorem MapD.len (h : MapD ek L i l c) : lenMD L (.map (.n i)) = some (.int .i64 (l.length : Nat)) := by
  simp only [lenMD, entries, h.get, Option.map_some, encE, List.length_map]
theorem hset_get (h : i < L.length) (b : DBlk) : hget (hset L i b) i = some b := by rw [hget_hset _ _ _ h, if_pos rfl]
theorem MapD.setNew (h : MapD ek L i l c) (he : KeyEnc kn ag ek) {u : AV} {q : K} (hq : findK q l 0 = none) {fl : Nat} (hp : (pur u = true ∧ pur (ek q) = true) ∨ fl ≤ i) :
    ∃ L', mapSetD fl kn ag L (.map (.n i)) (ek q) u = some L' ∧ MapD ek L' i (l ++ [(q, u, c)]) (c + 1) ∧ Turn i L L' ∧ L'.length = L.length := by
  refine ⟨hset L i (.map (encE ek l ++ [(ek q, u, c)]) (c + 1)), ?_, ⟨?_, ?_, ?_⟩, Turn.set _ _ _, length_hset _ _ _⟩
  · simp only [mapSetD, he.ok, if_true, h.get, findKey_enc he, hq]
    rw [if_pos hp]
  · rw [hset_get h.lt]; simp [encE]
  · intro e hm
    rcases List.mem_append.1 hm with hm | hm
    · have := h.born e hm; omega
    · simp at hm; subst hm; simp
  · rw [List.map_append, List.nodup_append]
    refine ⟨h.uniq, by simp, ?_⟩
    intro a ha b hb
    simp at hb
    subst hb
    obtain ⟨e, he', rfl⟩ := List.mem_map.1 ha
    have := h.born e he'
    omega
theorem MapD.entryNew (h : MapD ek L i l c) (he : KeyEnc kn ag ek) {z : AV} {q : K} (hq : findK q l 0 = none) {fl : Nat} (hp : (pur z = true ∧ pur (ek q) = true) ∨ fl ≤ i) :
    ∃ L', mapEntryD fl z kn ag L (.map (.n i)) (ek q) = some (.tuple [z, .int .i64 c], L') ∧ MapD ek L' i (l ++ [(q, z, c)]) (c + 1) ∧ Turn i L L' ∧ L'.length = L.length := by
  refine ⟨hset L i (.map (encE ek l ++ [(ek q, z, c)]) (c + 1)), ?_, ⟨?_, ?_, ?_⟩, Turn.set _ _ _, length_hset _ _ _⟩
  · simp only [mapEntryD, he.ok, if_true, h.get, findKey_enc he, hq]
    rw [if_pos hp]
  · rw [hset_get h.lt]; simp [encE]
  · intro e hm
    rcases List.mem_append.1 hm with hm | hm
    · have := h.born e hm; omega
    · simp at hm; subst hm; simp
  · rw [List.map_append, List.nodup_append]
    refine ⟨h.uniq, by simp, ?_⟩
    intro a ha b hb
    simp at hb
    subst hb
    obtain ⟨e, he', rfl⟩ := List.mem_map.1 ha
    have := h.born e he'
    omega
theorem MapD.entryOld (h : MapD ek L i l c) (he : KeyEnc kn ag ek) {z : AV} {q : K} {j : Nat} {e : K × AV × Nat} (hq : findK q l 0 = some (j, e.2.1)) (hj : l[j]? = some e) (hek : e.1 = q) {fl : Nat} (hp : (pur z = true ∧ pur (ek q) = true) ∨ fl ≤ i) :
    ∃ L', mapEntryD fl z kn ag L (.map (.n i)) (ek q) = some (.tuple [e.2.1, .int .i64 e.2.2], L') ∧ MapD ek L' i l c ∧ Turn i L L' ∧ L'.length = L.length := by
  have hj' : (encE ek l)[j]? = some (ek e.1, e.2.1, e.2.2) := by simp [encE, hj]
  refine ⟨hset L i (.map ((encE ek l).modify j fun e => (ek q, e.2)) c), ?_, ⟨?_, h.born, h.uniq⟩, Turn.set _ _ _, length_hset _ _ _⟩
  · simp only [mapEntryD, he.ok, if_true, h.get, findKey_enc he, hq, hj']
    rw [if_pos hp]
  · rw [hset_get h.lt]
    congr 2
    apply List.ext_getElem?
    intro p
    rw [List.getElem?_modify]
    by_cases hp : j = p
    · subst hp
      rw [hj']
      simp [hek]
    · simp [hp]
 omit [DecidableEq K] in
theorem MapD.entrySet (h : MapD ek L i l c) {u : AV} {j : Nat} {e : K × AV × Nat} (hj : l[j]? = some e) {fl : Nat} (hp : pur u = true ∨ fl ≤ i) :
    ∃ L', entryStoreD fl L (.map (.n i)) (.int .i64 e.2.2) u = some L' ∧ MapD ek L' i (l.modify j fun e => (e.1, u, e.2.2)) c ∧ Turn i L L' ∧ L'.length = L.length := by
  have hf : (encE ek l).findIdx? (fun x => decide ((x.2.2 : Int) = (e.2.2 : Int))) = some j := by
    rw [List.findIdx?_eq_some_iff_getElem]
    have hlt := (List.getElem?_eq_some_iff.1 hj).1
    refine ⟨by simpa [encE] using hlt, ?_, ?_⟩
    · simp [encE, (List.getElem?_eq_some_iff.1 hj).2]
    · intro p hp
      simp only [encE, List.getElem_map, decide_eq_true_eq, Int.ofNat_inj]
      intro e1
      have e2 : (l.map (·.2.2))[p]? = (l.map (·.2.2))[j]? := by
        rw [List.getElem?_map, List.getElem?_map, hj, List.getElem?_eq_getElem (by omega)]
        simp [e1]
      have := (List.getElem?_inj (by rw [List.length_map]; omega) h.uniq).1 e2
      omega
  refine ⟨hset L i (.map ((encE ek l).modify j fun e => (e.1, u, e.2.2)) c), ?_, ⟨?_, ?_, ?_⟩, Turn.set _ _ _, length_hset _ _ _⟩
  · simp only [entryStoreD, h.get]
    rw [if_pos hp, hf]
  · rw [hset_get h.lt]
    congr 2
    apply List.ext_getElem?
    intro p
    simp only [encE, List.getElem?_modify, List.getElem?_map]
    by_cases hp : j = p
    · subst hp; simp [hj]
    · simp [hp]
  · intro x hx
    obtain ⟨p, hp⟩ := List.mem_iff_getElem?.1 hx
    rw [List.getElem?_modify] at hp
    cases hq : l[p]? with
    | none => rw [hq] at hp; simp at hp
    | some y =>
      rw [hq] at hp
      have := h.born y (List.mem_of_getElem? hq)
      by_cases e3 : j = p
      · simp [e3] at hp; subst hp; exact this
      · simp [e3] at hp; subst hp; exact this
  · have e4 : (l.modify j fun e => (e.1, u, e.2.2)).map (·.2.2) = l.map (·.2.2) := by
      apply List.ext_getElem?
      intro p
      simp only [List.getElem?_map, List.getElem?_modify]
      by_cases hp : j = p
      · subst hp; simp [hj]
      · simp [hp]
    rw [e4]
    exact h.uniq
/-- A map, by what it holds. -/
def MapV (ek : K → AV) (L : DHeap) (i : Nat) (f : K → Option AV) : Prop := ∃ l c, MapD ek L i l c ∧ ∀ q, valK q l = f q
theorem valK_nil (q : K) : valK q ([] : List (K × AV × Nat)) = none := rfl
theorem valK_cons (q r : K) (v : AV) (b : Nat) (l : List (K × AV × Nat)) : valK q ((r, v, b) :: l) = if q = r then some v else valK q l := by
  unfold valK
  simp only [findK]
  by_cases h : q = r
  · simp [h]
  · simp only [h, if_false]
    have := findK_shift q l 0
    rw [this]
    cases findK q l 0 <;> rfl
theorem valK_append (q : K) : ∀ (l m : List (K × AV × Nat)), valK q (l ++ m) = (valK q l).or (valK q m)
  | [], m => by simp [valK_nil]
  | (r, v, b) :: l, m => by
    rw [List.cons_append, valK_cons, valK_cons, valK_append q l m]
    by_cases h : q = r <;> simp [h]
theorem valOr_eq (z : AV) (q : K) (l : List (K × AV × Nat)) : valOr z (findK q l 0) = (valK q l).getD z := by
  unfold valK
  cases findK q l 0 with
  | none => rfl
  | some p => rfl
/-- The first entry of a key gets another value. -/
theorem valK_modify (r q : K) (u : AV) : ∀ (l : List (K × AV × Nat)) (j : Nat) (e : K × AV × Nat), l[j]? = some e → e.1 = q → (∀ i' e', i' < j → l[i']? = some e' → e'.1 ≠ q) → valK r (l.modify j fun e => (e.1, u, e.2.2)) = if r = q then some u else valK r l
  | [], j, e, h, _, _ => by simp at h
  | (k, v, b) :: l, 0, e, h, hq, _ => by
    simp at h
    subst h
    simp only at hq
    subst hq
    simp only [List.modify_zero_cons, valK_cons]
    by_cases h : r = k <;> simp [h]
  | (k, v, b) :: l, j + 1, e, h, hq, hb => by
    have hk : k ≠ q := hb 0 (k, v, b) (by omega) rfl
    rw [List.modify_succ_cons, valK_cons, valK_cons, valK_modify r q u l j e (by simpa using h) hq fun i' e' hi he => hb (i' + 1) e' (by omega) (by simpa using he)]
    by_cases h1 : r = k
    · subst h1
      simp [hk]
    · simp [h1]
section
variable {f : K → Option AV}
theorem MapV.lt (h : MapV ek L i f) : i < L.length := by obtain ⟨l, c, h1, _⟩ := h; exact h1.lt
theorem MapV.of_get (h : MapV ek L i f) (hg : hget M i = hget L i) : MapV ek M i f := by obtain ⟨l, c, h1, h2⟩ := h; exact ⟨l, c, h1.of_get hg, h2⟩
theorem MapV.kept (h : MapV ek L i f) (hk : Kept L M) : MapV ek M i f := by obtain ⟨l, c, h1, h2⟩ := h; exact ⟨l, c, h1.kept hk, h2⟩
theorem MapV.turn {q : Nat} (h : MapV ek L i f) (ht : Turn q L M) (hne : i ≠ q) : MapV ek M i f := h.of_get (ht.get h.lt hne)
theorem MapV.new (L : DHeap) : MapV ek (halloc L (.map [] 0)) L.length (fun _ => none) := ⟨[], 0, MapD.new L, fun q => rfl⟩
theorem MapV.look (h : MapV ek L i f) (he : KeyEnc kn ag ek) (z : AV) (q : K) : lookD z kn ag false L (.map (.n i)) (ek q) = some ((f q).getD z) := by
  obtain ⟨l, c, h1, h2⟩ := h
  rw [h1.look he, valOr_eq, h2]
theorem MapV.look2 (h : MapV ek L i f) (he : KeyEnc kn ag ek) (z : AV) (q : K) : lookD z kn ag true L (.map (.n i)) (ek q) = some (.tuple [(f q).getD z, .bool (f q).isSome]) := by
  obtain ⟨l, c, h1, h2⟩ := h
  rw [h1.look2 he, valOr_eq, h2]
  have : (findK q l 0).isSome = (f q).isSome := by rw [← h2, valK]; cases findK q l 0 <;> rfl
  rw [this]
/-- m[k]++ and its like: an entry is read, entered and written. -/
theorem MapV.bump (h : MapV ek L i f) (he : KeyEnc kn ag ek) {z : AV} {q : K} {fl : Nat} (hz : pur z = true) (hk : pur (ek q) = true) {u : AV} (hu : pur u = true) :
    ∃ (b : Nat) (L1 L2 : DHeap), mapEntryD fl z kn ag L (.map (.n i)) (ek q) = some (.tuple [(f q).getD z, .int .i64 b], L1) ∧ lookD z kn ag false L1 (.map (.n i)) (ek q) = some ((f q).getD z) ∧
      entryStoreD fl L1 (.map (.n i)) (.int .i64 b) u = some L2 ∧ MapV ek L2 i (fun r => if r = q then some u else f r) ∧ Turn i L L1 ∧ Turn i L L2 ∧ L1.length = L.length ∧ L2.length = L.length := by
  obtain ⟨l, c, h1, h2⟩ := h
  rcases findK_spec q l with ⟨g1, g2⟩ | ⟨j, e, g1, g2, g3, g4⟩
  · obtain ⟨L1, a1, a2, a3, a4⟩ := h1.entryNew he g1 (z := z) (fl := fl) (.inl ⟨hz, hk⟩)
    have hj : (l ++ [(q, z, c)])[l.length]? = some (q, z, c) := by simp
    obtain ⟨L2, b1, b2, b3, b4⟩ := a2.entrySet hj (u := u) (fl := fl) (.inl hu)
    have hv : valK q l = none := by unfold valK; rw [g1]; rfl
    have hf : f q = none := by rw [← h2, hv]
    refine ⟨c, L1, L2, ?_, ?_, b1, ⟨_, _, b2, fun r => ?_⟩, a3, a3.trans b3, a4, b4.trans a4⟩
    · rw [a1, hf]; rfl
    · rw [a2.look he, valOr_eq, valK_append, hv, hf]
      simp [valK_cons]
    · rw [valK_modify r q u _ _ _ hj rfl (fun i' e' hi he' => by
        rw [List.getElem?_append_left hi] at he'
        exact g2 e' (List.mem_of_getElem? he'))]
      by_cases hr : r = q
      · simp [hr]
      · simp only [if_neg hr]
        rw [valK_append, h2, valK_cons, if_neg hr, valK_nil]
        cases f r <;> rfl
  · obtain ⟨L1, a1, a2, a3, a4⟩ := h1.entryOld he g1 g2 g3 (z := z) (fl := fl) (.inl ⟨hz, hk⟩)
    obtain ⟨L2, b1, b2, b3, b4⟩ := a2.entrySet g2 (u := u) (fl := fl) (.inl hu)
    have hv : valK q l = some e.2.1 := by unfold valK; rw [g1]; rfl
    have hf : f q = some e.2.1 := by rw [← h2, hv]
    refine ⟨e.2.2, L1, L2, ?_, ?_, b1, ⟨_, _, b2, fun r => ?_⟩, a3, a3.trans b3, a4, b4.trans a4⟩
    · rw [a1, hf]; rfl
    · rw [a2.look he, valOr_eq, hv, hf]
    · rw [valK_modify r q u _ _ _ g2 g3 g4, h2]
/-- An entry is written. -/
theorem MapV.set (h : MapV ek L i f) (he : KeyEnc kn ag ek) {q : K} {fl : Nat} (hk : pur (ek q) = true) {u : AV} (hu : pur u = true) :
    ∃ L', mapSetD fl kn ag L (.map (.n i)) (ek q) u = some L' ∧ MapV ek L' i (fun r => if r = q then some u else f r) ∧ Turn i L L' ∧ L'.length = L.length := by
  obtain ⟨l, c, h1, h2⟩ := h
  rcases findK_spec q l with ⟨g1, g2⟩ | ⟨j, e, g1, g2, g3, g4⟩
  · obtain ⟨L1, a1, a2, a3, a4⟩ := h1.setNew he g1 (u := u) (fl := fl) (.inl ⟨hu, hk⟩)
    have hv : valK q l = none := by unfold valK; rw [g1]; rfl
    refine ⟨L1, a1, ⟨_, _, a2, fun r => ?_⟩, a3, a4⟩
    rw [valK_append, valK_cons, valK_nil]
    by_cases hr : r = q
    · simp [hr, hv]
    · simp only [if_neg hr]
      rw [h2]
      cases f r <;> rfl
  · have hm : mapSetD fl kn ag L (.map (.n i)) (ek q) u = some (hset L i (.map ((encE ek l).modify j fun e => (ek q, u, e.2.2)) c)) := by
      simp only [mapSetD, he.ok, if_true, h1.get, findKey_enc he, g1]
      rw [if_pos (.inl ⟨hu, hk⟩)]
    have e4 : (l.modify j fun e => (e.1, u, e.2.2)).map (·.2.2) = l.map (·.2.2) := by
      apply List.ext_getElem?
      intro p
      simp only [List.getElem?_map, List.getElem?_modify]
      by_cases hp : j = p
      · subst hp; simp [g2]
      · simp [hp]
    refine ⟨_, hm, ⟨l.modify j fun e => (e.1, u, e.2.2), c, ⟨?_, ?_, by rw [e4]; exact h1.uniq⟩, fun r => by rw [valK_modify r q u _ _ _ g2 g3 g4, h2]⟩, Turn.set _ _ _, length_hset _ _ _⟩
    · rw [hset_get h1.lt]
      congr 2
      apply List.ext_getElem?
      intro p
      simp only [encE, List.getElem?_modify, List.getElem?_map]
      by_cases hp : j = p
      · subst hp; simp [g2, g3]
      · simp [hp]
    · intro x hx
      obtain ⟨p, hp⟩ := List.mem_iff_getElem?.1 hx
      rw [List.getElem?_modify] at hp
      cases hq : l[p]? with
      | none => rw [hq] at hp; simp at hp
      | some y =>
        rw [hq] at hp
        have := h1.born y (List.mem_of_getElem? hq)
        by_cases e3 : j = p
        · simp [e3] at hp; subst hp; exact this
        · simp [e3] at hp; subst hp; exact this
end
end
end Go.AI
