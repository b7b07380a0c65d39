/- THE SECOND MACHINE, 23: blocks that are rows of equal length, and slices that look at them. Own work. -/
import Derived.Test.YtmjhiaedgpikdaaA22
set_option linter.unusedSimpArgs false
set_option linter.unusedVariables false
namespace Go.AI

/-- All of one length. -/
def Even (sz : Nat) (rows : List (List AV)) : Prop := ∀ x ∈ rows, x.length = sz
theorem Even.nil (sz : Nat) : Even sz [] := fun x h => by cases h
theorem Even.cons {sz : Nat} {x : List AV} {rows : List (List AV)} (h : x.length = sz) (k : Even sz rows) : Even sz (x :: rows) := fun y hy => by
  rcases List.mem_cons.1 hy with rfl | hy
  · exact h
  · exact k y hy
theorem Even.tail {sz : Nat} {x : List AV} {rows : List (List AV)} (h : Even sz (x :: rows)) : Even sz rows := fun y hy => h y (List.mem_cons_of_mem _ hy)
theorem Even.append {sz : Nat} {a b : List (List AV)} (h : Even sz a) (k : Even sz b) : Even sz (a ++ b) := fun y hy => by
  rcases List.mem_append.1 hy with hy | hy
  · exact h y hy
  · exact k y hy
theorem Even.take {sz : Nat} {a : List (List AV)} (h : Even sz a) (n : Nat) : Even sz (a.take n) := fun y hy => h y (List.mem_of_mem_take hy)
theorem Even.drop {sz : Nat} {a : List (List AV)} (h : Even sz a) (n : Nat) : Even sz (a.drop n) := fun y hy => h y (List.mem_of_mem_drop hy)
theorem Even.get {sz : Nat} {a : List (List AV)} (h : Even sz a) {j : Nat} {x : List AV} (hx : a[j]? = some x) : x.length = sz := h x (List.mem_of_getElem? hx)
theorem Even.set {sz : Nat} {a : List (List AV)} (h : Even sz a) (j : Nat) {x : List AV} (hx : x.length = sz) : Even sz (a.set j x) := fun y hy => by
  rcases List.mem_or_eq_of_mem_set hy with hy | rfl
  · exact h y hy
  · exact hx
theorem Even.replicate {sz : Nat} (z : List AV) (h : z.length = sz) (n : Nat) : Even sz (List.replicate n z) := fun y hy => by
  rw [(List.mem_replicate.1 hy).2]; exact h

theorem flat_length {sz : Nat} : ∀ {rows : List (List AV)}, Even sz rows → rows.flatten.length = rows.length * sz
  | [], _ => by simp
  | x :: r, h => by
    rw [List.flatten_cons, List.length_append, flat_length h.tail, h x List.mem_cons_self, List.length_cons, Nat.add_mul, Nat.one_mul, Nat.add_comm]
theorem flat_drop {sz : Nat} : ∀ (n : Nat) {rows : List (List AV)}, Even sz rows → rows.flatten.drop (n * sz) = (rows.drop n).flatten
  | 0, rows, _ => by simp
  | n + 1, [], _ => by simp
  | n + 1, x :: r, h => by
    have hx := h x List.mem_cons_self
    rw [List.flatten_cons, List.drop_succ_cons, ← flat_drop n h.tail, Nat.add_mul, Nat.one_mul, List.drop_append]
    rw [List.drop_eq_nil_of_le (by omega), List.nil_append]
    congr 1
    omega
theorem flat_take {sz : Nat} : ∀ (n : Nat) {rows : List (List AV)}, Even sz rows → rows.flatten.take (n * sz) = (rows.take n).flatten
  | 0, rows, _ => by simp
  | n + 1, [], _ => by simp
  | n + 1, x :: r, h => by
    have hx := h x List.mem_cons_self
    rw [List.flatten_cons, List.take_succ_cons, List.flatten_cons, ← flat_take n h.tail, Nat.add_mul, Nat.one_mul, List.take_append]
    rw [List.take_of_length_le (by omega)]
    congr 2
    omega
theorem flat_seg {sz : Nat} {rows : List (List AV)} (h : Even sz rows) {a n : Nat} (hle : a + n ≤ rows.length) : seg rows.flatten (a * sz) (n * sz) = some ((rows.drop a).take n).flatten := by
  unfold seg
  rw [if_pos, flat_drop a h, flat_take n (h.drop a)]
  rw [flat_length h, ← Nat.add_mul]
  exact Nat.mul_le_mul_right _ hle
theorem flat_lay {sz : Nat} {rows ys : List (List AV)} (h : Even sz rows) (hy : Even sz ys) {a : Nat} : lay rows.flatten (a * sz) ys.flatten = (lay rows a ys).flatten := by
  unfold lay
  rw [flat_length hy, ← Nat.add_mul, flat_take a h, flat_drop _ h, List.flatten_append, List.flatten_append]
theorem lay_one {rows : List (List AV)} {j : Nat} {x : List AV} (hj : j < rows.length) : lay rows j [x] = rows.set j x := by
  unfold lay
  rw [List.set_eq_take_append_cons_drop, if_pos hj]
  simp
theorem lay_mid {α : Type} (A x B vs : List α) (p : Nat) (hp : p + vs.length ≤ x.length) : lay (A ++ (x ++ B)) (A.length + p) vs = A ++ (lay x p vs ++ B) := by
  unfold lay
  rw [List.take_append, List.drop_append, List.take_of_length_le (Nat.le_add_right _ _), List.drop_eq_nil_of_le (by omega : A.length ≤ A.length + p + vs.length)]
  rw [show A.length + p - A.length = p by omega, show A.length + p + vs.length - A.length = p + vs.length by omega]
  rw [List.take_append, List.drop_append, show p - x.length = 0 by omega, show p + vs.length - x.length = 0 by omega]
  simp [List.append_assoc]
/-- A part of one row is written. -/
theorem flat_set {sz : Nat} {rows : List (List AV)} (h : Even sz rows) {j p : Nat} {x vs : List AV} (hx : rows[j]? = some x) (hp : p + vs.length ≤ sz) : lay rows.flatten (j * sz + p) vs = (rows.set j (lay x p vs)).flatten := by
  obtain ⟨hj, hjx⟩ := List.getElem?_eq_some_iff.1 hx
  have hxl := h.get hx
  have e1 : rows.flatten = (rows.take j).flatten ++ (x ++ (rows.drop (j + 1)).flatten) := by
    conv => lhs; rw [← List.take_append_drop j rows, List.drop_eq_getElem_cons hj, hjx]
    rw [List.flatten_append, List.flatten_cons]
  have hlt : (rows.take j).flatten.length = j * sz := by
    rw [flat_length (h.take j), List.length_take, Nat.min_eq_left (by omega)]
  rw [List.set_eq_take_append_cons_drop, if_pos hj, e1, ← hlt, lay_mid _ _ _ _ _ (by omega), List.flatten_append, List.flatten_cons]

/-- A block of rows. -/
structure Blk (H : AHeap) (k sz : Nat) (z : Nat) (rows : List (List AV)) : Prop where
  get : H.get (.n k) = some (.cells rows.flatten z)
  even : Even sz rows
theorem Blk.lt {H : AHeap} {k sz z : Nat} {rows : List (List AV)} (h : Blk H k sz z rows) : k < H.next := AHeap.get_lt h.get
theorem Blk.grow {H G : AHeap} {k sz z : Nat} {rows : List (List AV)} (h : Blk H k sz z rows) (g : Grow H G) : Blk G k sz z rows := ⟨g.get h.get, h.even⟩
theorem Blk.new (H : AHeap) {sz : Nat} (z : Nat) {rows : List (List AV)} (h : Even sz rows) : Blk (H.alloc (.cells rows.flatten z)) H.next sz z rows := ⟨by rw [AHeap.get_alloc, if_pos rfl], h⟩

section
variable {H : AHeap} {k sz z : Nat} {rows : List (List AV)}
/-- What is read of it. -/
theorem Blk.load (h : Blk H k sz z rows) {a n : Nat} (hle : a + n ≤ rows.length) : H.loadN (.n k) (a * sz) (n * sz) = some ((rows.drop a).take n).flatten := by
  unfold AHeap.loadN
  by_cases hn : n * sz = 0
  · rw [if_pos hn]
    have : ((rows.drop a).take n).flatten.length = 0 := by
      rw [flat_length ((h.even.drop a).take n), List.length_take, List.length_drop, Nat.min_eq_left (by omega)]
      exact hn
    rw [List.eq_nil_of_length_eq_zero this]
  · rw [if_neg hn, h.get]
    exact flat_seg h.even hle
theorem Blk.load1 (h : Blk H k sz z rows) {j : Nat} {x : List AV} (hx : rows[j]? = some x) : H.loadN (.n k) (j * sz) sz = some x := by
  obtain ⟨hj, hjx⟩ := List.getElem?_eq_some_iff.1 hx
  have := h.load (a := j) (n := 1) (by omega)
  rw [Nat.one_mul] at this
  rw [this, List.drop_eq_getElem_cons hj, hjx]
  simp
/-- A slice of it. -/
theorem Blk.row (h : Blk H k sz z rows) {a n c : Nat} {tail : Bool} (hle : a + n ≤ rows.length) (hc : n ≤ c) : Row H (.slc (.n k) (a * sz) n c tail) sz ((rows.drop a).take n) := by
  refine .inr ⟨.n k, a * sz, c, tail, ?_, ?_, ?_⟩
  · rw [List.length_take, List.length_drop, Nat.min_eq_left (by omega)]
  · rw [List.length_take]; omega
  · intro j x hx
    rw [List.getElem?_take] at hx
    split at hx
    · rw [List.getElem?_drop] at hx
      refine ⟨h.even.get hx, ?_⟩
      rw [← Nat.add_mul]
      exact h.load1 hx
    · cases hx
/-- What is written into one row. -/
theorem Blk.store (h : Blk H k sz z rows) {j p : Nat} {x vs : List AV} (hx : rows[j]? = some x) (hp : p + vs.length ≤ sz) (ho : vs.all AV.one = true) :
    ∃ H', H.storeN (.n k) (j * sz + p) vs = some H' ∧ Blk H' k sz z (rows.set j (lay x p vs)) ∧ H'.next = H.next ∧ H'.old = H.old ∧ ∀ i, i ≠ .n k → H'.get i = H.get i := by
  have hj := (List.getElem?_eq_some_iff.1 hx).1
  unfold AHeap.storeN
  by_cases hv : vs = []
  · subst hv
    refine ⟨H, by rw [if_pos rfl], ?_, rfl, rfl, fun _ _ => rfl⟩
    have e : lay x p [] = x := by simp [lay]
    have e2 : rows.set j x = rows := by
      rw [← (List.getElem?_eq_some_iff.1 hx).2]
      exact List.set_getElem_self hj
    rw [e, e2]
    exact h
  · rw [if_neg hv]
    simp only [h.get]
    have hle : j * sz + p + vs.length ≤ rows.flatten.length := by
      rw [flat_length h.even]
      have : (j + 1) * sz ≤ rows.length * sz := Nat.mul_le_mul_right _ hj
      rw [Nat.add_mul, Nat.one_mul] at this
      omega
    refine ⟨H.setN k (.cells (lay rows.flatten (j * sz + p) vs) z), by rw [if_pos (by rw [Bool.and_eq_true]; exact ⟨decide_eq_true hle, ho⟩)], ⟨?_, h.even.set j ?_⟩, rfl, rfl, fun i hi => AHeap.get_setN_ne _ _ hi⟩
    · rw [AHeap.get_setN _ _ _ h.lt, if_pos rfl, flat_set h.even hx hp]
    · rw [length_lay _ _ _ (by rw [h.even.get hx]; exact hp)]
      exact h.even.get hx
/-- Rows laid over rows. -/
theorem Blk.stores (h : Blk H k sz z rows) {a : Nat} {ys : List (List AV)} (hy : Even sz ys) (hle : a + ys.length ≤ rows.length) (ho : ys.flatten.all AV.one = true) :
    ∃ H', H.storeN (.n k) (a * sz) ys.flatten = some H' ∧ Blk H' k sz z (lay rows a ys) ∧ H'.next = H.next ∧ H'.old = H.old ∧ ∀ i, i ≠ .n k → H'.get i = H.get i := by
  unfold AHeap.storeN
  by_cases hv : ys.flatten = []
  · rw [if_pos hv]
    refine ⟨H, rfl, ⟨?_, ?_⟩, rfl, rfl, fun _ _ => rfl⟩
    · rw [← flat_lay h.even hy, hv]
      rw [h.get]
      simp [lay]
    · exact (((h.even.take a).append hy).append (h.even.drop _))
  · rw [if_neg hv]
    simp only [h.get]
    have hle : a * sz + ys.flatten.length ≤ rows.flatten.length := by
      rw [flat_length h.even, flat_length hy, ← Nat.add_mul]
      exact Nat.mul_le_mul_right _ hle
    refine ⟨H.setN k (.cells (lay rows.flatten (a * sz) ys.flatten) z), by rw [if_pos (by rw [Bool.and_eq_true]; exact ⟨decide_eq_true hle, ho⟩)], ⟨?_, ?_⟩, rfl, rfl, fun i hi => AHeap.get_setN_ne _ _ hi⟩
    · rw [AHeap.get_setN _ _ _ h.lt, if_pos rfl, flat_lay h.even hy]
    · exact (((h.even.take a).append hy).append (h.even.drop _))
end

/-- The whole of a row that is looked at. -/
theorem loadN_join {H : AHeap} {i : Id} {sz : Nat} : ∀ (xs : List (List AV)) (o : Nat), (∀ j x, xs[j]? = some x → x.length = sz ∧ H.loadN i (o + j * sz) sz = some x) → H.loadN i o (xs.length * sz) = some xs.flatten
  | [], o, _ => by simp [AHeap.loadN]
  | x :: xs, o, h => by
    have h0 := h 0 x rfl
    rw [Nat.zero_mul, Nat.add_zero] at h0
    have ih := loadN_join xs (o + sz) fun j y hy => by
      have := h (j + 1) y (by simpa using hy)
      rw [Nat.add_mul, Nat.one_mul, Nat.add_comm (j * sz), ← Nat.add_assoc] at this
      exact this
    obtain ⟨hl, h0⟩ := h0
    rw [List.length_cons, Nat.add_mul, Nat.one_mul, List.flatten_cons]
    unfold AHeap.loadN at h0 ih ⊢
    by_cases hs : sz = 0
    · subst hs
      rw [if_pos rfl] at h0
      cases h0
      rw [if_pos (by omega)] at ih ⊢
      simpa using ih
    · rw [if_neg hs] at h0
      rw [if_neg (by omega)]
      cases hB : H.get i with
      | none => rw [hB] at h0; cases h0
      | some B =>
        rw [hB] at h0 ih
        cases B with
        | map _ _ => cases h0
        | iter _ _ _ _ => cases h0
        | cells cs s =>
          simp only [seg] at h0 ih ⊢
          split at h0
          · rename_i hle
            injection h0 with h0
            by_cases hx : xs.length * sz = 0
            · rw [if_pos hx] at ih
              injection ih with ih
              rw [hx, Nat.zero_add, if_pos hle, h0, ← ih, List.append_nil]
            · rw [if_neg hx] at ih
              split at ih
              · rename_i hle2
                injection ih with ih
                rw [if_pos (by omega), ← h0, ← ih, ← List.drop_drop, Nat.add_comm (xs.length * sz) sz, List.take_add]
              · cases ih
          · cases h0
theorem Row.rows {H : AHeap} {s : AV} {sz : Nat} {xs : List (List AV)} (h : Row H s sz xs) : rows H sz xs.length s = some xs.flatten := by
  rcases h with ⟨rfl, rfl⟩ | ⟨i, o, cap, tail, rfl, _, h3⟩
  · rfl
  · exact loadN_join xs o h3
theorem Row.even {H : AHeap} {s : AV} {sz : Nat} {xs : List (List AV)} (h : Row H s sz xs) : Even sz xs := by
  intro x hx
  obtain ⟨j, hj⟩ := List.mem_iff_getElem?.1 hx
  rcases h with ⟨_, rfl⟩ | ⟨i, o, cap, tail, _, _, h3⟩
  · simp at hj
  · exact (h3 j x hj).1
end Go.AI
