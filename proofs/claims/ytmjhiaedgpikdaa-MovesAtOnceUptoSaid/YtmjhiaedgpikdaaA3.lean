/- THE SECOND MACHINE, 3: a heap of it and the model's world; what becomes of the two when blocks are made, written, let go. Own work. -/
import Derived.Test.YtmjhiaedgpikdaaA2
set_option linter.unusedSimpArgs false
set_option linter.unusedVariables false
namespace Go.AI

/-- What the model holds beside a block. -/
def BR (φ : Emb) (l : Loc) (w : World) (new : Bool) : ABlk → Prop
  | .cells cs s => ∃ c t fz, w.heap[l.blk]? = some (.cells c t fz) ∧ (new = true → fz = (0, 0)) ∧
      VRs φ cs ((c.toList.drop l.off).take cs.length) ∧ l.off + cs.length + l.ext * s ≤ c.size
  | .map es clock => ∃ es' : Array MapEntry, w.heap[l.blk]? = some (.map es' clock) ∧ es'.toList.map (·.born) = es.map (·.2.2) ∧
      VRs φ (es.map (·.1)) (es'.toList.map (·.key)) ∧ VRs φ (es.map (·.2.1)) (es'.toList.map (·.val))
  | .iter .. => False

def Id.isNew : Id → Bool
  | .o _ => false
  | .n _ => true

structure Rel (φ : Emb) (w0 : World) (H : AHeap) (w : World) : Prop where
  blk : ∀ i B l, H.get i = some B → φ i = some l → l.dead = false ∧ BR φ l w i.isNew B
  inj : ∀ i j l m, φ i = some l → φ j = some m → l.dead = false → m.dead = false → l.blk = m.blk → i = j
  lt : ∀ i l, φ i = some l → l.dead = false → l.blk < w.heap.size
  fresh : ∀ k, H.next ≤ k → φ (.n k) = none
  low : ∀ k l, φ (.n k) = some l → w0.heap.size ≤ l.blk
  olds : ∀ n, ∃ d, φ (.o n) = some ⟨n, 0, 0, d⟩
  below : Go.RowKit.Below w0.heap.size w0 w

theorem BR.mono {φ ψ : Emb} (h : φ.le ψ) {l : Loc} {w : World} {n : Bool} {B : ABlk} (hb : BR φ l w n B) : BR ψ l w n B := by
  cases B with
  | cells cs s =>
    obtain ⟨c, t, fz, h1, h2, h3, h4⟩ := hb
    exact ⟨c, t, fz, h1, h2, h3.mono h, h4⟩
  | map es clock =>
    obtain ⟨es', h1, h2, h3, h4⟩ := hb
    exact ⟨es', h1, h2, h3.mono h, h4.mono h⟩
  | iter a b c d => exact hb.elim
theorem BR.world {φ : Emb} {l : Loc} {w w' : World} {n : Bool} {B : ABlk} (h : w'.heap[l.blk]? = w.heap[l.blk]?) (hb : BR φ l w n B) : BR φ l w' n B := by
  cases B with
  | cells cs s =>
    obtain ⟨c, t, fz, h1, h2, h3, h4⟩ := hb
    exact ⟨c, t, fz, h.trans h1, h2, h3, h4⟩
  | map es clock =>
    obtain ⟨es', h1, h2, h3, h4⟩ := hb
    exact ⟨es', h.trans h1, h2, h3, h4⟩
  | iter a b c d => exact hb.elim

def Emb.upd (φ : Emb) (i : Id) (l : Loc) : Emb := fun j => if j = i then some l else φ j
theorem Emb.upd_same (φ : Emb) (i : Id) (l : Loc) : φ.upd i l i = some l := by simp [Emb.upd]
theorem Emb.upd_other (φ : Emb) {i j : Id} (l : Loc) (h : j ≠ i) : φ.upd i l j = φ j := by simp [Emb.upd, h]
theorem Emb.le_upd {φ : Emb} {i : Id} (l : Loc) (h : φ i = none) : φ.le (φ.upd i l) := by
  intro j m hj
  by_cases e : j = i
  · subst e; rw [h] at hj; cases hj
  · exact ⟨m.dead, by rw [Emb.upd_other _ _ e]; exact hj⟩
def Emb.kill (φ : Emb) (i : Id) : Emb := fun j => if j = i then (φ i).map fun l => { l with dead := true } else φ j
theorem Emb.kill_other (φ : Emb) {i j : Id} (h : j ≠ i) : φ.kill i j = φ j := by simp [Emb.kill, h]
theorem Emb.kill_same {φ : Emb} {i : Id} {l : Loc} (h : φ i = some l) : φ.kill i i = some { l with dead := true } := by simp [Emb.kill, h]
theorem Emb.le_kill (φ : Emb) (i : Id) : φ.le (φ.kill i) := by
  intro j l hj
  by_cases e : j = i
  · subst e; exact ⟨true, Emb.kill_same hj⟩
  · exact ⟨l.dead, by rw [Emb.kill_other _ e]; exact hj⟩

theorem blt_eq (a b : Nat) : Nat.blt a b = decide (a < b) := by
  rcases Nat.lt_or_ge a b with h | h
  · rw [decide_eq_true h]; exact Nat.ble_eq_true_of_le h
  · rw [decide_eq_false (Nat.not_lt.2 h)]
    cases e : Nat.blt a b with
    | false => rfl
    | true => have := Nat.le_of_ble_eq_true e; omega
theorem AHeap.get_n (H : AHeap) (k : Nat) : H.get (.n k) = if k < H.next then H.new.get k else none := by
  simp only [AHeap.get, blt_eq]
  by_cases h : k < H.next <;> simp [h]
theorem AHeap.get_lt {H : AHeap} {k : Nat} {B : ABlk} (h : H.get (.n k) = some B) : k < H.next := by
  rw [AHeap.get_n] at h
  split at h
  · assumption
  · cases h
theorem AHeap.get_alloc (H : AHeap) (b : ABlk) (i : Id) : (H.alloc b).get i = if i = .n H.next then some b else H.get i := by
  cases i with
  | o n => simp [AHeap.alloc, AHeap.get]
  | n k =>
    simp only [AHeap.get_n, AHeap.alloc, Trie.get_put, Id.n.injEq]
    by_cases h : k = H.next
    · simp [h]
    · simp only [if_neg h]
      by_cases h2 : k < H.next
      · rw [if_pos h2, if_pos (by omega)]
      · rw [if_neg h2, if_neg (by omega)]
theorem AHeap.get_setN (H : AHeap) (k : Nat) (b : ABlk) (hk : k < H.next) (i : Id) : (H.setN k b).get i = if i = .n k then some b else H.get i := by
  cases i with
  | o n => simp [AHeap.setN, AHeap.get]
  | n j =>
    simp only [AHeap.get_n, AHeap.setN, Trie.get_put, Id.n.injEq]
    by_cases h : j = k
    · subst h; simp [hk]
    · simp only [if_neg h]
theorem AHeap.get_setN_ne (H : AHeap) {k : Nat} (b : ABlk) {i : Id} (h : i ≠ .n k) : (H.setN k b).get i = H.get i := by
  cases i with
  | o n => simp [AHeap.setN, AHeap.get]
  | n j =>
    simp only [AHeap.get_n, AHeap.setN, Trie.get_put]
    rw [if_neg (show ¬ j = k from fun e => h (by rw [e]))]
theorem AHeap.get_kill (H : AHeap) (k : Nat) (i : Id) : (H.kill k).get i = if i = .n k then none else H.get i := by
  cases i with
  | o n => simp [AHeap.kill, AHeap.get]
  | n j =>
    simp only [AHeap.get_n, AHeap.kill, Trie.get_put, Id.n.injEq]
    by_cases h : j = k <;> simp [h]

/-- What one part of a run does to the blocks: of those that the model does not have yet nothing turns. -/
structure Step (φ : Emb) (H : AHeap) (φ' : Emb) (H' : AHeap) : Prop where
  le : φ.le φ'
  next : H.next ≤ H'.next
  keep : ∀ k, k < H.next → φ (.n k) = none → φ' (.n k) = none ∧ H'.get (.n k) = H.get (.n k)
theorem Step.refl (φ : Emb) (H : AHeap) : Step φ H φ H := ⟨φ.le_refl, Nat.le_refl _, fun _ _ h => ⟨h, rfl⟩⟩
theorem Step.trans {φ ψ χ : Emb} {H G K : AHeap} (h : Step φ H ψ G) (k : Step ψ G χ K) : Step φ H χ K :=
  ⟨Emb.le_trans h.le k.le, Nat.le_trans h.next k.next, fun j hj hn => by
    obtain ⟨h1, h2⟩ := h.keep j hj hn
    obtain ⟨h3, h4⟩ := k.keep j (Nat.lt_of_lt_of_le hj h.next) h1
    exact ⟨h3, h4.trans h2⟩⟩
theorem Step.alloc {φ : Emb} {H : AHeap} (b : ABlk) (l : Loc) (h : φ (.n H.next) = none) : Step φ H (φ.upd (.n H.next) l) (H.alloc b) := by
  refine ⟨Emb.le_upd l h, Nat.le_succ _, fun k hk hn => ?_⟩
  have hne : (Id.n k) ≠ .n H.next := by intro e; injection e; omega
  exact ⟨by rw [Emb.upd_other _ _ hne]; exact hn, by rw [AHeap.get_alloc, if_neg hne]⟩
theorem Step.setN {φ : Emb} {H : AHeap} {k : Nat} (b : ABlk) {l : Loc} (h : φ (.n k) = some l) : Step φ H φ (H.setN k b) := by
  refine ⟨φ.le_refl, Nat.le_refl _, fun j hj hn => ⟨hn, ?_⟩⟩
  have hne : (Id.n j) ≠ .n k := by intro e; rw [e, h] at hn; cases hn
  rw [AHeap.get_setN_ne _ _ hne]
theorem Step.kill {φ : Emb} {H : AHeap} {k : Nat} {l : Loc} (h : φ (.n k) = some l) : Step φ H (φ.kill (.n k)) (H.kill k) := by
  refine ⟨Emb.le_kill φ (.n k), Nat.le_refl _, fun j hj hn => ?_⟩
  have hne : (Id.n j) ≠ .n k := by intro e; rw [e, h] at hn; cases hn
  exact ⟨by rw [Emb.kill_other _ hne]; exact hn, by rw [AHeap.get_kill, if_neg hne]⟩

theorem Rel.drew {φ : Emb} {w0 w : World} {H : AHeap} (h : Rel φ w0 H w) : Rel φ w0 H w.drew :=
  ⟨fun i B l hi hl => let ⟨h2, h3⟩ := h.blk i B l hi hl; ⟨h2, h3.world rfl⟩, h.inj, h.lt, h.fresh, h.low, h.olds, h.below.drew⟩

/-- A new block. -/
theorem Rel.alloc {φ : Emb} {w0 w : World} {H : AHeap} (h : Rel φ w0 H w) (b : ABlk) (o : Obj) (ext : Nat)
    (hb : BR φ ⟨w.heap.size, 0, ext, false⟩ (w.alloc o) true b) :
    Rel (φ.upd (.n H.next) ⟨w.heap.size, 0, ext, false⟩) w0 (H.alloc b) (w.alloc o) ∧ Step φ H (φ.upd (.n H.next) ⟨w.heap.size, 0, ext, false⟩) (H.alloc b) := by
  have hle := Emb.le_upd (φ := φ) (i := .n H.next) ⟨w.heap.size, 0, ext, false⟩ (h.fresh _ (Nat.le_refl _))
  have hsz : w0.heap.size ≤ w.heap.size := h.below.size
  refine ⟨⟨?_, ?_, ?_, ?_, ?_, ?_, ?_⟩, Step.alloc b _ (h.fresh _ (Nat.le_refl _))⟩
  · intro i B l hi hl
    rw [AHeap.get_alloc] at hi
    by_cases e : i = .n H.next
    · subst e
      rw [if_pos rfl] at hi
      cases hi
      rw [Emb.upd_same] at hl
      cases hl
      exact ⟨rfl, hb.mono hle⟩
    · rw [if_neg e] at hi
      rw [Emb.upd_other _ _ e] at hl
      obtain ⟨h2, h3⟩ := h.blk i B l hi hl
      refine ⟨h2, (h3.mono hle).world ?_⟩
      exact heap_alloc_old w o _ (h.lt i l hl h2)
  · intro i j l m hi hj hl hm hlm
    by_cases ei : i = .n H.next
    · by_cases ej : j = .n H.next
      · rw [ei, ej]
      · subst ei
        rw [Emb.upd_same] at hi
        rw [Emb.upd_other _ _ ej] at hj
        cases hi
        have := h.lt j m hj hm
        simp at hlm
        omega
    · by_cases ej : j = .n H.next
      · subst ej
        rw [Emb.upd_same] at hj
        rw [Emb.upd_other _ _ ei] at hi
        cases hj
        have := h.lt i l hi hl
        simp at hlm
        omega
      · rw [Emb.upd_other _ _ ei] at hi
        rw [Emb.upd_other _ _ ej] at hj
        exact h.inj i j l m hi hj hl hm hlm
  · intro i l hi hl
    have e0 : (w.alloc o).heap.size = w.heap.size + 1 := by simp
    rw [e0]
    by_cases e : i = .n H.next
    · subst e
      rw [Emb.upd_same] at hi
      cases hi
      simp
    · rw [Emb.upd_other _ _ e] at hi
      have := h.lt i l hi hl
      omega
  · intro k hk
    have hk' : H.next + 1 ≤ k := hk
    rw [Emb.upd_other _ _ (by intro e; injection e; omega)]
    exact h.fresh k (by omega)
  · intro k l hk
    by_cases e : (Id.n k) = .n H.next
    · rw [e, Emb.upd_same] at hk
      cases hk
      exact hsz
    · rw [Emb.upd_other _ _ e] at hk
      exact h.low k l hk
  · intro n
    obtain ⟨d, hd⟩ := h.olds n
    exact ⟨d, by rw [Emb.upd_other _ _ (by intro e; cases e)]; exact hd⟩
  · exact h.below.alloc hsz o

/-- A block of one's own takes another content. -/
theorem Rel.setN {φ : Emb} {w0 w w' : World} {H : AHeap} (h : Rel φ w0 H w) (k : Nat) (b : ABlk) (l : Loc) (hl : φ (.n k) = some l) (hd : l.dead = false)
    (hb : BR φ l w' true b) (ho : ∀ j, j ≠ l.blk → w'.heap[j]? = w.heap[j]?) (hs : w'.heap.size = w.heap.size)
    (hos : w'.os = w.os) (htape : w'.tape = w.tape) (hout : w'.output = w.output) :
    Rel φ w0 (H.setN k b) w' := by
  have hlow := h.low k l hl
  have hk : k < H.next := by
    rcases Nat.lt_or_ge k H.next with h' | h'
    · exact h'
    · rw [h.fresh k h'] at hl; cases hl
  refine ⟨?_, h.inj, ?_, h.fresh, h.low, h.olds, ?_⟩
  · intro i B m hi h1
    rw [AHeap.get_setN _ _ _ hk] at hi
    by_cases e : i = .n k
    · subst e
      rw [if_pos rfl] at hi
      cases hi
      rw [hl] at h1
      cases h1
      exact ⟨hd, hb⟩
    · rw [if_neg e] at hi
      obtain ⟨h2, h3⟩ := h.blk i B m hi h1
      refine ⟨h2, h3.world (ho _ ?_)⟩
      intro e2
      exact e (h.inj i (.n k) m l h1 hl h2 hd e2)
  · intro i m hi hm
    rw [hs]
    exact h.lt i m hi hm
  · have hb := h.below
    exact ⟨hos.trans hb.os, htape.trans hb.tape, hout.trans hb.output, by rw [hs]; exact hb.size, fun j hj => (ho j (by omega)).trans (hb.block j hj)⟩

/-- A block is let go. -/
theorem Rel.kill {φ : Emb} {w0 w : World} {H : AHeap} (h : Rel φ w0 H w) (k : Nat) : Rel (φ.kill (.n k)) w0 (H.kill k) w := by
  have hle := Emb.le_kill φ (.n k)
  refine ⟨?_, ?_, ?_, ?_, ?_, ?_, h.below⟩
  · intro i B l hi hl
    rw [AHeap.get_kill] at hi
    by_cases e : i = .n k
    · rw [if_pos e] at hi; cases hi
    · rw [if_neg e] at hi
      rw [Emb.kill_other _ e] at hl
      obtain ⟨h2, h3⟩ := h.blk i B l hi hl
      exact ⟨h2, h3.mono hle⟩
  · intro i j l m hi hj hl hm hlm
    by_cases ei : i = .n k
    · subst ei
      cases hq : φ (.n k) with
      | none => simp [Emb.kill, hq] at hi
      | some q => rw [Emb.kill_same hq] at hi; cases hi; simp at hl
    · by_cases ej : j = .n k
      · subst ej
        cases hq : φ (.n k) with
        | none => simp [Emb.kill, hq] at hj
        | some q => rw [Emb.kill_same hq] at hj; cases hj; simp at hm
      · rw [Emb.kill_other _ ei] at hi
        rw [Emb.kill_other _ ej] at hj
        exact h.inj i j l m hi hj hl hm hlm
  · intro i l hi hl
    by_cases ei : i = .n k
    · subst ei
      cases hq : φ (.n k) with
      | none => simp [Emb.kill, hq] at hi
      | some q => rw [Emb.kill_same hq] at hi; cases hi; simp at hl
    · rw [Emb.kill_other _ ei] at hi
      exact h.lt i l hi hl
  · intro j hj
    have hj' : H.next ≤ j := hj
    by_cases e : (Id.n j) = .n k
    · rw [e]
      have := h.fresh j hj'
      rw [e] at this
      simp [Emb.kill, this]
    · rw [Emb.kill_other _ e]
      exact h.fresh j hj'
  · intro j l hj
    by_cases e : (Id.n j) = .n k
    · rw [e] at hj
      cases hq : φ (.n k) with
      | none => simp [Emb.kill, hq] at hj
      | some q =>
        rw [Emb.kill_same hq] at hj
        cases hj
        exact h.low k q hq
    · rw [Emb.kill_other _ e] at hj
      exact h.low j l hj
  · intro n
    obtain ⟨d, hd⟩ := h.olds n
    exact ⟨d, by rw [Emb.kill_other _ (by intro e; cases e)]; exact hd⟩

/-- A block that nobody holds by its old name is held by a new one, with other content. -/
theorem Rel.again {φ : Emb} {w0 w w' : World} {H : AHeap} (h : Rel φ w0 H w) (b : ABlk) (l : Loc) (hd : l.dead = false)
    (hfree : ∀ i m, φ i = some m → m.dead = false → m.blk ≠ l.blk) (hlow : w0.heap.size ≤ l.blk) (hlt : l.blk < w.heap.size)
    (hb : BR φ l w' true b) (ho : ∀ j, j ≠ l.blk → w'.heap[j]? = w.heap[j]?) (hs : w'.heap.size = w.heap.size)
    (hos : w'.os = w.os) (htape : w'.tape = w.tape) (hout : w'.output = w.output) :
    Rel (φ.upd (.n H.next) l) w0 (H.alloc b) w' ∧ Step φ H (φ.upd (.n H.next) l) (H.alloc b) := by
  have hle := Emb.le_upd (φ := φ) (i := .n H.next) l (h.fresh _ (Nat.le_refl _))
  refine ⟨⟨?_, ?_, ?_, ?_, ?_, ?_, ?_⟩, Step.alloc b l (h.fresh _ (Nat.le_refl _))⟩
  · intro i B m hi h1
    rw [AHeap.get_alloc] at hi
    by_cases e : i = .n H.next
    · subst e
      rw [if_pos rfl] at hi
      cases hi
      rw [Emb.upd_same] at h1
      cases h1
      exact ⟨hd, hb.mono hle⟩
    · rw [if_neg e] at hi
      rw [Emb.upd_other _ _ e] at h1
      obtain ⟨h2, h3⟩ := h.blk i B m hi h1
      exact ⟨h2, (h3.mono hle).world (ho _ (hfree i m h1 h2))⟩
  · intro i j p m hi hj hp hm hpm
    by_cases ei : i = .n H.next
    · by_cases ej : j = .n H.next
      · rw [ei, ej]
      · subst ei
        rw [Emb.upd_same] at hi
        rw [Emb.upd_other _ _ ej] at hj
        cases hi
        exact absurd hpm.symm (hfree j m hj hm)
    · by_cases ej : j = .n H.next
      · subst ej
        rw [Emb.upd_same] at hj
        rw [Emb.upd_other _ _ ei] at hi
        cases hj
        exact absurd hpm (hfree i p hi hp)
      · rw [Emb.upd_other _ _ ei] at hi
        rw [Emb.upd_other _ _ ej] at hj
        exact h.inj i j p m hi hj hp hm hpm
  · intro i m hi hm
    rw [hs]
    by_cases e : i = .n H.next
    · subst e
      rw [Emb.upd_same] at hi
      cases hi
      exact hlt
    · rw [Emb.upd_other _ _ e] at hi
      exact h.lt i m hi hm
  · intro k hk
    have hk' : H.next + 1 ≤ k := hk
    rw [Emb.upd_other _ _ (by intro e; injection e; omega)]
    exact h.fresh k (by omega)
  · intro k m hk
    by_cases e : (Id.n k) = .n H.next
    · rw [e, Emb.upd_same] at hk
      cases hk
      exact hlow
    · rw [Emb.upd_other _ _ e] at hk
      exact h.low k m hk
  · intro n
    obtain ⟨d, hd⟩ := h.olds n
    exact ⟨d, by rw [Emb.upd_other _ _ (by intro e; cases e)]; exact hd⟩
  · have hb := h.below
    exact ⟨hos.trans hb.os, htape.trans hb.tape, hout.trans hb.output, by rw [hs]; exact hb.size, fun j hj => (ho j (by omega)).trans (hb.block j hj)⟩

/-- A block that the second machine has made already, and the model makes now. -/
theorem Rel.late {φ : Emb} {w0 w : World} {H : AHeap} (h : Rel φ w0 H w) (k : Nat) (hk : k < H.next) (hn : φ (.n k) = none) (b : ABlk) (hg : H.get (.n k) = some b) (o : Obj)
    (hb : BR φ ⟨w.heap.size, 0, 0, false⟩ (w.alloc o) true b) :
    Rel (φ.upd (.n k) ⟨w.heap.size, 0, 0, false⟩) w0 H (w.alloc o) ∧ φ.le (φ.upd (.n k) ⟨w.heap.size, 0, 0, false⟩) := by
  have hle := Emb.le_upd (φ := φ) (i := .n k) ⟨w.heap.size, 0, 0, false⟩ hn
  have hsz : w0.heap.size ≤ w.heap.size := h.below.size
  refine ⟨⟨?_, ?_, ?_, ?_, ?_, ?_, ?_⟩, hle⟩
  · intro i B l hi hl
    by_cases e : i = .n k
    · subst e
      rw [hg] at hi
      cases hi
      rw [Emb.upd_same] at hl
      cases hl
      exact ⟨rfl, hb.mono hle⟩
    · rw [Emb.upd_other _ _ e] at hl
      obtain ⟨h2, h3⟩ := h.blk i B l hi hl
      exact ⟨h2, (h3.mono hle).world (heap_alloc_old w o _ (h.lt i l hl h2))⟩
  · intro i j l m hi hj hl hm hlm
    by_cases ei : i = .n k
    · by_cases ej : j = .n k
      · rw [ei, ej]
      · subst ei
        rw [Emb.upd_same] at hi
        rw [Emb.upd_other _ _ ej] at hj
        cases hi
        have := h.lt j m hj hm
        simp at hlm
        omega
    · by_cases ej : j = .n k
      · subst ej
        rw [Emb.upd_same] at hj
        rw [Emb.upd_other _ _ ei] at hi
        cases hj
        have := h.lt i l hi hl
        simp at hlm
        omega
      · rw [Emb.upd_other _ _ ei] at hi
        rw [Emb.upd_other _ _ ej] at hj
        exact h.inj i j l m hi hj hl hm hlm
  · intro i l hi hl
    have e0 : (w.alloc o).heap.size = w.heap.size + 1 := by simp
    rw [e0]
    by_cases e : i = .n k
    · subst e
      rw [Emb.upd_same] at hi
      cases hi
      simp
    · rw [Emb.upd_other _ _ e] at hi
      have := h.lt i l hi hl
      omega
  · intro j hj
    rw [Emb.upd_other _ _ (by intro e; injection e; omega)]
    exact h.fresh j hj
  · intro j l hj
    by_cases e : (Id.n j) = .n k
    · rw [e, Emb.upd_same] at hj
      cases hj
      exact hsz
    · rw [Emb.upd_other _ _ e] at hj
      exact h.low j l hj
  · intro n
    obtain ⟨d, hd⟩ := h.olds n
    exact ⟨d, by rw [Emb.upd_other _ _ (by intro e; cases e)]; exact hd⟩
  · exact h.below.alloc hsz o

/-- The second machine makes blocks that the model does not have yet. -/
structure Grow (H G : AHeap) : Prop where
  next : H.next ≤ G.next
  olds : ∀ n, G.get (.o n) = H.get (.o n)
  keep : ∀ k, k < H.next → G.get (.n k) = H.get (.n k)
theorem Grow.refl (H : AHeap) : Grow H H := ⟨Nat.le_refl _, fun _ => rfl, fun _ _ => rfl⟩
theorem Grow.trans {H G K : AHeap} (h : Grow H G) (k : Grow G K) : Grow H K :=
  ⟨Nat.le_trans h.next k.next, fun n => (k.olds n).trans (h.olds n), fun j hj => (k.keep j (Nat.lt_of_lt_of_le hj h.next)).trans (h.keep j hj)⟩
theorem Grow.alloc (H : AHeap) (b : ABlk) : Grow H (H.alloc b) :=
  ⟨Nat.le_succ _, fun n => by rw [AHeap.get_alloc, if_neg (by intro e; cases e)], fun k hk => by rw [AHeap.get_alloc, if_neg (by intro e; injection e; omega)]⟩
theorem Grow.get {H G : AHeap} (h : Grow H G) {i : Id} {B : ABlk} (hi : H.get i = some B) : G.get i = some B := by
  cases i with
  | o n => rw [h.olds]; exact hi
  | n k => rw [h.keep k (AHeap.get_lt hi)]; exact hi
theorem Rel.more {φ : Emb} {w0 w : World} {H G : AHeap} (h : Rel φ w0 H w) (g : Grow H G) : Rel φ w0 G w ∧ Step φ H φ G := by
  refine ⟨⟨?_, h.inj, h.lt, fun k hk => h.fresh k (Nat.le_trans g.next hk), h.low, h.olds, h.below⟩, φ.le_refl, g.next, fun k hk hn => ⟨hn, g.keep k hk⟩⟩
  intro i B l hi hl
  refine h.blk i B l ?_ hl
  cases i with
  | o n => rw [← g.olds]; exact hi
  | n k =>
    have hk : k < H.next := by
      rcases Nat.lt_or_ge k H.next with h' | h'
      · exact h'
      · rw [h.fresh k h'] at hl; cases hl
    rw [← g.keep k hk]
    exact hi
end Go.AI
