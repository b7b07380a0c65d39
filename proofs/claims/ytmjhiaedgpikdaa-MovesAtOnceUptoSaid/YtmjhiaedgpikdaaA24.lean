/- THE SECOND MACHINE, 24: slices that grow, and are one's own. Own work. -/
import Derived.Test.YtmjhiaedgpikdaaA23
set_option linter.unusedSimpArgs false
set_option linter.unusedVariables false
namespace Go.AI

/-- All blocks stay, but one. -/
structure But (own : Option Nat) (H G : AHeap) : Prop where
  next : H.next ≤ G.next
  olds : ∀ n, G.get (.o n) = H.get (.o n)
  keep : ∀ k, k < H.next → own ≠ some k → G.get (.n k) = H.get (.n k)
theorem But.refl (own : Option Nat) (H : AHeap) : But own H H := ⟨Nat.le_refl _, fun _ => rfl, fun _ _ _ => rfl⟩
theorem Grow.but {H G : AHeap} (g : Grow H G) (own : Option Nat) : But own H G := ⟨g.next, g.olds, fun k hk _ => g.keep k hk⟩
theorem But.trans {own : Option Nat} {H G K : AHeap} (h : But own H G) (k : But own G K) : But own H K :=
  ⟨Nat.le_trans h.next k.next, fun n => (k.olds n).trans (h.olds n), fun j hj ho => (k.keep j (Nat.lt_of_lt_of_le hj h.next) ho).trans (h.keep j hj ho)⟩
/-- What turns a block that was not there yet keeps all that was. -/
theorem But.grow {H0 H G : AHeap} {own : Option Nat} (g : Grow H0 H) (b : But own H G) (ho : ∀ k, own = some k → H0.next ≤ k) : Grow H0 G :=
  ⟨Nat.le_trans g.next b.next, fun n => (b.olds n).trans (g.olds n), fun k hk => (b.keep k (Nat.lt_of_lt_of_le hk g.next) (fun e => by have := ho k e; omega)).trans (g.keep k hk)⟩
theorem Blk.but {H G : AHeap} {k sz z : Nat} {rows : List (List AV)} {own : Option Nat} (h : Blk H k sz z rows) (b : But own H G) (hne : own ≠ some k) : Blk G k sz z rows := ⟨(b.keep k h.lt hne).trans h.get, h.even⟩

theorem But.loadN {own : Option Nat} {H G : AHeap} (b : But own H G) {k o n : Nat} (hk : own ≠ some k) {cs : List AV} (h : H.loadN (.n k) o n = some cs) : G.loadN (.n k) o n = some cs := by
  unfold AHeap.loadN at h ⊢
  by_cases hn : n = 0
  · rw [if_pos hn] at h ⊢; exact h
  · rw [if_neg hn] at h ⊢
    cases hB : H.get (.n k) with
    | none => rw [hB] at h; cases h
    | some B => rw [b.keep k (AHeap.get_lt hB) hk]; exact h
/-- A slice of one's own: nil, or the first rows of a block. -/
def Acc (H : AHeap) (own : Option Nat) (s : AV) (sz : Nat) (xs : List (List AV)) : Prop :=
  (own = none ∧ s = .nilslc ∧ xs = []) ∨ ∃ k rows cap tail z, own = some k ∧ s = .slc (.n k) 0 xs.length cap tail ∧ xs.length ≤ cap ∧ Blk H k sz z rows ∧ cap ≤ rows.length ∧ rows.take xs.length = xs ∧
    (tail = true → z = sz ∧ cap = rows.length)
section
variable {H : AHeap} {own : Option Nat} {s : AV} {sz : Nat} {xs : List (List AV)}
theorem Acc.nil (H : AHeap) (sz : Nat) : Acc H none .nilslc sz [] := .inl ⟨rfl, rfl, rfl⟩
theorem Acc.row (h : Acc H own s sz xs) : Row H s sz xs := by
  rcases h with ⟨_, rfl, rfl⟩ | ⟨k, rows, cap, tail, z, rfl, rfl, h1, h2, h3, h4, _⟩
  · exact .inl ⟨rfl, rfl⟩
  · have := h2.row (a := 0) (n := xs.length) (c := cap) (tail := tail) (by omega) h1
    rw [List.drop_zero, h4, Nat.zero_mul] at this
    exact this
theorem Acc.lt (h : Acc H own s sz xs) {k : Nat} (ho : own = some k) : k < H.next := by
  rcases h with ⟨h, _⟩ | ⟨j, rows, cap, tail, z, h, _, _, h2, _⟩
  · rw [h] at ho; cases ho
  · rw [h] at ho; cases ho; exact h2.lt
theorem Acc.but {G : AHeap} {o : Option Nat} (h : Acc H own s sz xs) (b : But o H G) (hne : own = none ∨ o ≠ own) : Acc G own s sz xs := by
  rcases h with h | ⟨k, rows, cap, tail, z, h0, h1, h2, h3, h4⟩
  · exact .inl h
  · refine .inr ⟨k, rows, cap, tail, z, h0, h1, h2, h3.but b ?_, h4⟩
    rcases hne with e | e
    · rw [e] at h0; cases h0
    · rw [h0] at e; exact e
theorem Acc.grow {G : AHeap} (h : Acc H own s sz xs) (g : Grow H G) : Acc G own s sz xs := by
  rcases h with h | ⟨k, rows, cap, tail, z, h0, h1, h2, h3, h4⟩
  · exact .inl h
  · exact .inr ⟨k, rows, cap, tail, z, h0, h1, h2, h3.grow g, h4⟩
/-- A new one. -/
theorem Acc.made {x : List (List AV)} (H : AHeap) (h : Even sz x) (tail : Bool) : Acc (H.alloc (.cells x.flatten sz)) (some H.next) (.slc (.n H.next) 0 x.length x.length tail) sz x :=
  .inr ⟨H.next, x, x.length, tail, sz, rfl, rfl, Nat.le_refl _, Blk.new H sz h, Nat.le_refl _, List.take_length, fun _ => ⟨rfl, rfl⟩⟩
theorem Acc.made0 {x : List (List AV)} (H : AHeap) (h : Even sz x) : Acc (H.alloc (.cells x.flatten 0)) (some H.next) (.slc (.n H.next) 0 x.length x.length false) sz x :=
  .inr ⟨H.next, x, x.length, false, 0, rfl, rfl, Nat.le_refl _, Blk.new H 0 h, Nat.le_refl _, List.take_length, fun h => by cases h⟩

theorem append_new {bytes : Nat} {y : AV} {ys : List (List AV)} (hy : Row H y sz ys) (ho : ys.flatten.all AV.one = true) (hb : ys.length * bytes ≤ reachB) (hb2 : ys.length ≤ reachB) :
    ∃ s' H' own', appendOp sz bytes H .nilslc y = some (s', H') ∧ Acc H' own' s' sz ys ∧ Grow H H' ∧ (own' = none ∨ own' = some H.next) := by
  unfold appendOp
  simp only [hy.len, hy.rows, ho, if_true]
  by_cases h0 : ys.length = 0
  · rw [if_pos h0]
    have : ys = [] := List.eq_nil_of_length_eq_zero h0
    subst this
    exact ⟨_, _, none, rfl, Acc.nil _ _, Grow.refl _, .inl rfl⟩
  · rw [if_neg h0, if_pos ⟨hb, hb2⟩]
    exact ⟨_, _, _, rfl, Acc.made H hy.even true, Grow.alloc _ _, .inr rfl⟩

/-- A slice of one's own takes more behind it. -/
theorem Acc.append {bytes : Nat} (h : Acc H own s sz xs) {y : AV} {ys : List (List AV)} (hy : Row H y sz ys) (ho : ys.flatten.all AV.one = true) (hb : (xs.length + ys.length) * bytes ≤ reachB) (hb2 : xs.length + ys.length ≤ reachB) :
    ∃ s' H' own', appendOp sz bytes H s y = some (s', H') ∧ Acc H' own' s' sz (xs ++ ys) ∧ But own H H' ∧ (own' = own ∨ own' = some H.next) := by
  rcases h with ⟨rfl, rfl, rfl⟩ | ⟨k, rows, cap, tail, z, rfl, rfl, h1, h2, h3, h4, h5⟩
  · obtain ⟨s', H', own', e1, e2, e3, e4⟩ := append_new (bytes := bytes) hy ho (by simpa using hb) (by simpa using hb2)
    exact ⟨s', H', own', e1, by simpa using e2, e3.but _, e4⟩
  · have hxe : Even sz xs := by rw [← h4]; exact h2.even.take _
    unfold appendOp
    simp only [hy.len, hy.rows, ho, if_true]
    by_cases hroom : xs.length + ys.length ≤ cap
    · rw [if_pos hroom]
      obtain ⟨H', e1, e2, e3, e4, e5⟩ := h2.stores hy.even (a := xs.length) (by omega) ho
      rw [Nat.zero_add, e1]
      refine ⟨_, H', some k, rfl, .inr ⟨k, lay rows xs.length ys, cap, tail, z, rfl, ?_, ?_, e2, ?_, ?_, ?_⟩, ⟨by rw [e3]; exact Nat.le_refl _, fun n => e5 _ (by intro e; cases e), fun j hj hne => e5 _ (by intro e; injection e with e; exact hne (by rw [e]))⟩, .inl rfl⟩
      · rw [List.length_append]
      · rw [List.length_append]; exact hroom
      · rw [length_lay _ _ _ (by omega)]; exact h3
      · unfold lay
        rw [h4, List.length_append, ← List.length_append, List.take_left]
      · intro ht
        rw [length_lay _ _ _ (by omega)]
        exact h5 ht
    · rw [if_neg hroom, if_pos ⟨hb, hb2⟩]
      have hload : H.loadN (.n k) 0 (xs.length * sz) = some xs.flatten := by
        have := h2.load (a := 0) (n := xs.length) (by omega)
        rwa [Nat.zero_mul, List.drop_zero, h4] at this
      simp only [hload]
      have he := hxe.append hy.even
      have key : ∀ (G : AHeap), G.next = H.next → (∀ i, i ≠ .n k → G.get i = H.get i) →
          ∃ s' H' own', some (AV.slc (.n H.next) 0 (xs.length + ys.length) (xs.length + ys.length) true, G.alloc (.cells (xs.flatten ++ ys.flatten) sz)) = some (s', H') ∧ Acc H' own' s' sz (xs ++ ys) ∧ But (some k) H H' ∧ (own' = some k ∨ own' = some H.next) := by
        intro G hn hg
        have hm := Acc.made G he true
        rw [List.flatten_append, hn, List.length_append] at hm
        refine ⟨_, _, _, rfl, hm, ⟨?_, fun n => ?_, fun j hj hne => ?_⟩, .inr rfl⟩
        · rw [alloc_next, hn]; exact Nat.le_succ _
        · rw [AHeap.get_alloc, if_neg (by intro e; cases e)]
          exact hg _ (by intro e; cases e)
        · rw [AHeap.get_alloc, if_neg (by intro e; injection e; omega)]
          exact hg _ (by intro e; injection e with e; exact hne (by rw [e]))
      unfold growOp
      cases tail with
      | false => exact key H rfl fun _ _ => rfl
      | true =>
        obtain ⟨rfl, hc⟩ := h5 rfl
        simp only [if_true, h2.get]
        rw [if_pos ⟨trivial, by rw [flat_length h2.even, hc, Nat.zero_add]⟩]
        exact key (H.kill k) rfl fun i hi => by rw [AHeap.get_kill, if_neg hi]

/-- A part of one element is written. -/
theorem Acc.store (h : Acc H own s sz xs) {j p : Nat} {x vs : List AV} (hx : xs[j]? = some x) (hp : p + vs.length ≤ sz) (ho : vs.all AV.one = true) {v : AV} (hv : v.ok = true) (hvs : v.cells = vs) :
    ∃ H', storeF H vs.length (elemP s (j * sz + p)) v = some H' ∧ Acc H' own s sz (xs.set j (lay x p vs)) ∧ But own H H' ∧ H'.next = H.next := by
  have hj := (List.getElem?_eq_some_iff.1 hx).1
  rcases h with ⟨rfl, rfl, rfl⟩ | ⟨k, rows, cap, tail, z, rfl, rfl, h1, h2, h3, h4, h5⟩
  · simp at hj
  · have hxr : rows[j]? = some x := by
      rw [← h4, List.getElem?_take, if_pos hj] at hx
      exact hx
    obtain ⟨H', e1, e2, e3, e4, e5⟩ := h2.store hxr hp ho
    refine ⟨H', ?_, .inr ⟨k, _, cap, tail, z, rfl, ?_, ?_, e2, ?_, ?_, ?_⟩, ⟨by rw [e3]; exact Nat.le_refl _, fun n => e5 _ (by intro e; cases e), fun i hi hne => e5 _ (by intro e; injection e with e; exact hne (by rw [e]))⟩, e3⟩
    · simp only [elemP, storeF_ptr]
      rw [if_pos ⟨hv, by rw [hvs]⟩, hvs, Nat.zero_add]
      exact e1
    · rw [List.length_set]
    · rw [List.length_set]; exact h1
    · rw [List.length_set]; exact h3
    · rw [List.length_set, List.take_set, h4]
    · intro ht
      rw [List.length_set]
      exact h5 ht
end

theorem bound_nat (k : IntKind) (i y : Nat) (h : i ≤ y) : bound (.int k (i : Int)) y = some i := by
  unfold bound
  simp only
  rw [if_pos (by omega)]
  simp
theorem cut_to (esz : Nat) (i : Id) (off len cap : Nat) (tail : Bool) (k : IntKind) (n : Nat) (h : n ≤ cap) : cutF esz (.slc i off len cap tail) none (some (.int k (n : Int))) none = some (.slc i off n cap tail) := by
  simp [cutF, sliceOp, bnds, bnd, ev, bound_nat, h]
theorem cut_from (esz : Nat) (i : Id) (off len cap : Nat) (tail : Bool) (k : IntKind) (n : Nat) (h : n ≤ len) : cutF esz (.slc i off len cap tail) (some (.int k (n : Int))) none none = some (.slc i (off + n * esz) (len - n) (cap - n) tail) := by
  simp [cutF, sliceOp, bnds, bnd, ev, bound_nat, h]
theorem cut_mid (esz : Nat) (i : Id) (off len cap : Nat) (tail : Bool) (k j : IntKind) (n m : Nat) (h : n ≤ m) (h2 : m ≤ cap) : cutF esz (.slc i off len cap tail) (some (.int k (n : Int))) (some (.int j (m : Int))) none = some (.slc i (off + n * esz) (m - n) (cap - n) tail) := by
  simp [cutF, sliceOp, bnds, bnd, ev, bound_nat, h, h2]
theorem cut_full (esz : Nat) (i : Id) (off len cap : Nat) (tail : Bool) (k j l : IntKind) (n m q : Nat) (h : n ≤ m) (h2 : m ≤ q) (h3 : q ≤ cap) :
    cutF esz (.slc i off len cap tail) (some (.int k (n : Int))) (some (.int j (m : Int))) (some (.int l (q : Int))) = some (.slc i (off + n * esz) (m - n) (q - n) false) := by
  simp [cutF, sliceOp, bnds, bnd, ev, bound_nat, h, h2, h3]
theorem cut_nil (esz : Nat) (lo hi mx : Option AV) (h : ∀ v, lo = some v ∨ hi = some v ∨ mx = some v → ∃ k, v = .int k 0) : cutF esz .nilslc lo hi mx = some .nilslc := by
  have b : ∀ (x : Option AV), (∀ v, x = some v → ∃ k, v = .int k 0) → bnd .leaf (x.map X.c) 0 0 = some 0 := by
    intro x hx
    cases x with
    | none => rfl
    | some v => obtain ⟨k, rfl⟩ := hx v rfl; rfl
  simp [cutF, sliceOp, bnds, b mx fun v hv => h v (.inr (.inr hv)), b hi fun v hv => h v (.inr (.inl hv)), b lo fun v hv => h v (.inl hv)]

section
variable {H : AHeap} {own : Option Nat} {s : AV} {sz : Nat} {xs : List (List AV)}
theorem Acc.upto (h : Acc H own s sz xs) {i : Nat} (hi : i ≤ xs.length) (k : IntKind) : ∃ s', cutF sz s none (some (.int k (i : Int))) none = some s' ∧ Acc H own s' sz (xs.take i) := by
  rcases h with ⟨rfl, rfl, rfl⟩ | ⟨q, rows, cap, tail, z, rfl, rfl, h1, h2, h3, h4, h5⟩
  · obtain rfl : i = 0 := by simpa using hi
    refine ⟨_, cut_nil _ _ _ _ ?_, .inl ⟨rfl, rfl, by simp⟩⟩
    rintro v (h | h | h) <;> cases h
    exact ⟨k, rfl⟩
  · refine ⟨_, cut_to _ _ _ _ _ _ _ _ (by omega), .inr ⟨q, rows, cap, tail, z, rfl, ?_, ?_, h2, h3, ?_, h5⟩⟩
    · rw [List.length_take, Nat.min_eq_left hi]
    · rw [List.length_take]; omega
    · rw [List.length_take, Nat.min_eq_left hi]
      conv => rhs; rw [← h4, List.take_take, Nat.min_eq_left hi]
/-- What lies behind is struck out, the first part is taken. -/
theorem Acc.cutClear (h : Acc H own s sz xs) {i : Nat} (hi : i ≤ xs.length) (k j : IntKind) {z : List AV} (hz : z.length = sz) (hz1 : z.all AV.one = true) :
    ∃ s1 H' s2, cutF sz s (some (.int k (i : Int))) none none = some s1 ∧ clearF z s1 H = some H' ∧ cutF sz s none (some (.int j (i : Int))) none = some s2 ∧ Acc H' own s2 sz (xs.take i) ∧ But own H H' := by
  obtain ⟨s2, hs2, ha2⟩ := h.upto hi j
  rcases h with ⟨rfl, rfl, rfl⟩ | ⟨q, rows, cap, tail, zz, rfl, rfl, h1, h2, h3, h4, h5⟩
  · obtain rfl : i = 0 := by simpa using hi
    refine ⟨.nilslc, H, s2, cut_nil _ _ _ _ ?_, rfl, hs2, ha2, But.refl _ _⟩
    rintro v (h | h | h) <;> cases h
    exact ⟨k, rfl⟩
  · by_cases h0 : xs.length - i = 0
    · refine ⟨_, H, s2, cut_from _ _ _ _ _ _ _ _ hi, ?_, hs2, ha2, But.refl _ _⟩
      simp only [clearF]
      rw [if_pos h0]
    · obtain ⟨H', e1, e2, e3, e4, e5⟩ := h2.stores (a := i) (Even.replicate z hz (xs.length - i)) (by rw [List.length_replicate]; omega) (by
        rw [List.all_eq_true] at hz1 ⊢
        intro x hx
        obtain ⟨l, hl, hx⟩ := List.mem_flatten.1 hx
        rw [(List.mem_replicate.1 hl).2] at hx
        exact hz1 x hx)
      rw [cut_to _ _ _ _ _ _ _ _ (by omega)] at hs2
      injection hs2 with hs2
      refine ⟨_, H', s2, cut_from _ _ _ _ _ _ _ _ hi, ?_, by rw [← hs2]; exact cut_to _ _ _ _ _ _ _ _ (by omega), .inr ⟨q, _, cap, tail, zz, rfl, ?_, ?_, e2, ?_, ?_, ?_⟩,
        ⟨by rw [e3]; exact Nat.le_refl _, fun n => e5 _ (by intro e; cases e), fun i hi hne => e5 _ (by intro e; injection e with e; exact hne (by rw [e]))⟩⟩
      · simp only [clearF]
        rw [if_neg h0, Nat.zero_add]
        exact e1
      · rw [List.length_take, Nat.min_eq_left hi]
        exact hs2.symm
      · rw [List.length_take]; omega
      · rw [length_lay _ _ _ (by rw [List.length_replicate]; omega)]; exact h3
      · rw [List.length_take, Nat.min_eq_left hi]
        unfold lay
        rw [List.append_assoc, List.take_append, List.take_take, Nat.min_self, List.length_take, Nat.min_eq_left (by omega), Nat.sub_self, List.take_zero, List.append_nil]
        conv => rhs; rw [← h4, List.take_take, Nat.min_eq_left hi]
      · intro ht
        rw [length_lay _ _ _ (by rw [List.length_replicate]; omega)]
        exact h5 ht
end
theorem lay_full {x vs : List AV} (h : x.length = vs.length) : lay x 0 vs = vs := by
  unfold lay
  rw [List.take_zero, List.nil_append, Nat.zero_add, ← h, List.drop_length, List.append_nil]

theorem take_lay {α : Type} (rows : List α) (a : Nat) (ys : List α) (h : a ≤ rows.length) : (lay rows a ys).take a = rows.take a := by
  unfold lay
  rw [List.append_assoc, List.take_append, List.take_take, Nat.min_self, List.length_take, Nat.min_eq_left h, Nat.sub_self, List.take_zero, List.append_nil]
/-- Elements i to j are taken out, what then lies behind is struck out. -/
theorem Acc.deleteAt {H : AHeap} {own : Option Nat} {s : AV} {sz : Nat} {xs : List (List AV)} (h : Acc H own s sz xs) (ho : xs.flatten.all AV.one = true) {i j bytes : Nat} (hij : i < j) (hj : j ≤ xs.length) {z : List AV} (hz : z.length = sz) (hz1 : z.all AV.one = true) :
    ∃ s0 s1 s2 s3 H1 s4 H2, cutF sz s (some (.int .i64 (i : Int))) (some (.int .i64 (j : Int))) (some (.int .i64 (xs.length : Int))) = some s0 ∧ cutF sz s none (some (.int .i64 (i : Int))) none = some s1 ∧ cutF sz s (some (.int .i64 (j : Int))) none none = some s2 ∧
      appendOp sz bytes H s1 s2 = some (s3, H1) ∧ lenOf s3 = some (xs.length - (j - i)) ∧ cutF sz s3 (some (.int .i64 ((xs.length - (j - i) : Nat) : Int))) (some (.int .i64 (xs.length : Int))) none = some s4 ∧ clearF z s4 H1 = some H2 ∧
      Acc H2 own s3 sz (xs.take i ++ xs.drop j) ∧ But own H H2 := by
  rcases h with ⟨_, _, rfl⟩ | ⟨q, rows, cap, tail, zz, rfl, rfl, h1, h2, h3, h4, h5⟩
  · simp at hj; omega
  have hxe : Even sz xs := by rw [← h4]; exact h2.even.take _
  have hrow : Row H (.slc (.n q) (0 + j * sz) (xs.length - j) (cap - j) tail) sz (xs.drop j) := by
    have := h2.row (a := j) (n := xs.length - j) (c := cap - j) (tail := tail) (by omega) (by omega)
    have e : (rows.drop j).take (xs.length - j) = xs.drop j := by
      conv => rhs; rw [← h4, List.drop_take]
    rw [e] at this
    rw [Nat.zero_add]
    exact this
  have hdl : (xs.drop j).length = xs.length - j := List.length_drop
  have hro := hrow.rows
  rw [hdl] at hro
  have hall : (xs.drop j).flatten.all AV.one = true := by
    rw [List.all_eq_true] at ho ⊢
    intro x hx
    obtain ⟨l, hl, hx⟩ := List.mem_flatten.1 hx
    exact ho x (List.mem_flatten.2 ⟨l, List.mem_of_mem_drop hl, hx⟩)
  obtain ⟨H1, e1, e2, e3, e4, e5⟩ := h2.stores (a := i) (ys := xs.drop j) (hxe.drop j) (by omega) hall
  have hll : (lay rows i (xs.drop j)).length = rows.length := length_lay _ _ _ (by omega)
  have hzall : (List.replicate (j - i) z).flatten.all AV.one = true := by
    rw [List.all_eq_true] at hz1 ⊢
    intro x hx
    obtain ⟨l, hl, hx⟩ := List.mem_flatten.1 hx
    rw [(List.mem_replicate.1 hl).2] at hx
    exact hz1 x hx
  obtain ⟨H2, f1, f2, f3, f4, f5⟩ := e2.stores (a := xs.length - (j - i)) (Even.replicate z hz (j - i)) (by rw [List.length_replicate, hll]; omega) hzall
  refine ⟨_, _, _, .slc (.n q) 0 (xs.length - (j - i)) cap tail, H1, _, H2, cut_full _ _ _ _ _ _ _ _ _ _ _ _ (by omega) hj h1, cut_to _ _ _ _ _ _ _ _ (by omega), cut_from _ _ _ _ _ _ _ _ hj, ?_, rfl, cut_mid _ _ _ _ _ _ _ _ _ _ (by omega) h1, ?_, ?_, ?_⟩
  · unfold appendOp
    simp only [lenOf, hro, hall, if_true]
    rw [if_pos (by omega), Nat.zero_add, e1]
    simp only
    congr 3
    omega
  · simp only [clearF]
    rw [if_neg (by omega), Nat.zero_add, show xs.length - (xs.length - (j - i)) = j - i by omega]
    exact f1
  · refine .inr ⟨q, _, cap, tail, zz, rfl, ?_, ?_, f2, ?_, ?_, ?_⟩
    · rw [List.length_append, List.length_take, hdl, Nat.min_eq_left (by omega)]
      congr 1
      omega
    · rw [List.length_append, List.length_take, hdl, Nat.min_eq_left (by omega)]
      omega
    · rw [length_lay _ _ _ (by rw [List.length_replicate, hll]; omega), hll]
      exact h3
    · rw [List.length_append, List.length_take, hdl, Nat.min_eq_left (by omega), show i + (xs.length - j) = xs.length - (j - i) by omega]
      have e6 := take_lay (lay rows i (xs.drop j)) (xs.length - (j - i)) (List.replicate (j - i) z) (by rw [hll]; omega)
      rw [e6]
      unfold lay
      rw [List.take_append, List.length_append, List.length_take, hdl, Nat.min_eq_left (by omega), show xs.length - (j - i) - (i + (xs.length - j)) = 0 by omega, List.take_zero, List.append_nil]
      rw [List.take_of_length_le (by rw [List.length_append, List.length_take, hdl]; omega)]
      congr 1
      conv => rhs; rw [← h4, List.take_take, Nat.min_eq_left (by omega)]
    · intro ht
      rw [length_lay _ _ _ (by rw [List.length_replicate, hll]; omega), hll]
      exact h5 ht
  · have b1 : But (some q) H H1 := ⟨by rw [e3]; exact Nat.le_refl _, fun n => e5 _ (by intro e; cases e), fun i hi hne => e5 _ (by intro e; injection e with e; exact hne (by rw [e]))⟩
    have b2 : But (some q) H1 H2 := ⟨by rw [f3]; exact Nat.le_refl _, fun n => f5 _ (by intro e; cases e), fun i hi hne => f5 _ (by intro e; injection e with e; exact hne (by rw [e]))⟩
    exact b1.trans b2

/-! ### variables -/
theorem var_load {H : AHeap} {q z : Nat} {a : AV} (h : H.get (.n q) = some (.cells [a] z)) : H.loadN (.n q) 0 1 = some [a] := by
  simp [AHeap.loadN, h, seg]
theorem var_store {H : AHeap} {q z : Nat} {a : AV} (h : H.get (.n q) = some (.cells [a] z)) (b : AV) (hb : b.one = true) :
    ∃ H', H.storeN (.n q) 0 [b] = some H' ∧ H'.get (.n q) = some (.cells [b] z) ∧ But (some q) H H' ∧ H'.next = H.next := by
  have hq := AHeap.get_lt h
  refine ⟨H.setN q (.cells [b] z), ?_, ?_, ⟨Nat.le_refl _, fun n => AHeap.get_setN_ne _ _ (by intro e; cases e), fun k _ hne => AHeap.get_setN_ne _ _ (by intro e; injection e with e; exact hne (by rw [e]))⟩, rfl⟩
  · simp [AHeap.storeN, h, hb, lay]
  · rw [AHeap.get_setN _ _ _ hq, if_pos rfl]
theorem Row.val {H : AHeap} {s : AV} {sz : Nat} {xs : List (List AV)} (h : Row H s sz xs) : s.ok = true ∧ s.cells = [s] ∧ s.one = true := by
  rcases h with ⟨rfl, _⟩ | ⟨i, o, cap, tail, rfl, _⟩ <;> exact ⟨rfl, rfl, rfl⟩
theorem get_but {H G : AHeap} {own : Option Nat} (b : But own H G) {k : Nat} {B : ABlk} (h : H.get (.n k) = some B) (hne : own ≠ some k) : G.get (.n k) = some B := (b.keep k (AHeap.get_lt h) hne).trans h
end Go.AI
