/- THE DATA MACHINE, 2: what its values and its heap stand for in the second machine. Own work. -/
import Derived.Test.YtmjhiaedgpikdaaB1
set_option linter.unusedSimpArgs false
set_option linter.unusedVariables false
namespace Go.AI

structure Ctx where
  L : DHeap
  m : Nat → Id
  H : AHeap
  F : Id → Prop

def isSlc : AV → Prop
  | .nilslc => True
  | .slc _ _ _ _ _ => True
  | _ => False

def nilish (v : AV) : Prop := v = .nilslc ∨ ∃ i off, v = .slc i off 0 0 false
 mutual
def DV (C : Ctx) : AV → AV → Prop
  | .bool b, v => v = .bool b
  | .int k n, v => v = .int k n
  | .str s, v => v = .str s
  | .nilptr, v => v = .nilptr
  | .nilmap, v => v = .nilmap
  | .nilfunc, v => v = .nilfunc
  | .niliface, v => v = .niliface
  | .nilslc, v => v = .nilslc ∨ ∃ i off, v = .slc i off 0 0 false
  | .ptr (.n k) o, v => k < C.L.length ∧ ∃ i p, v = .ptr i p ∧ ∀ cs, hget C.L k = some (.cells cs) → i = C.m k ∧ p = o
  | .ptr (.o g) o, v => v = .ptr (.o g) o
  | .fptr cs o, v => ∃ i p cs', v = .ptr i (p + o) ∧ C.F i ∧ purs cs = true ∧ C.H.loadN i p cs.length = some cs' ∧ DVs C cs cs'
  | .eptr k ver row o, v => k < C.L.length ∧ ∃ i p, v = .ptr i p ∧ ∀ esz rs g, hget C.L k = some (.rows esz rs g) → ver ≤ rs.length ∧ (rs.length = ver → i = C.m k ∧ p = row * esz + o)
  | .slc (.n k) off len cap t, v => k < C.L.length ∧ isSlc v ∧ ∀ esz rs g, hget C.L k = some (.rows esz rs g) → off + cap ≤ rs.length ∧ (validB rs g off len cap = true → if g = true ∧ rs = [] then nilish v else v = .slc (C.m k) (off * esz) len cap t)
  | .slc (.o _) _ _ _ _, _ => False
  | .lst rs, v => purR rs = true ∧ ((rs = [] ∧ (v = .nilslc ∨ ∃ i off cap t, v = .slc i off 0 cap t)) ∨ ∃ esz i off cap t cs', v = .slc i off rs.length cap t ∧ C.F i ∧ rs.length ≤ cap ∧ evenB esz rs = true ∧ C.H.loadN i off (rs.length * esz) = some cs' ∧ DVr C rs cs')
  | .map (.n k), v => k < C.L.length ∧ ∃ i, v = .map i ∧ ∀ es c, hget C.L k = some (.map es c) → i = C.m k
  | .map (.o _), _ => False
  | .func f a b, v => ∃ a' b', v = .func f a' b' ∧ DVs C a a' ∧ DVs C b b'
  | .iface t x, v => ∃ y, v = .iface t y ∧ DV C x y
  | .agg cs, v => ∃ cs', v = .agg cs' ∧ DVs C cs cs'
  | .tuple cs, v => ∃ cs', v = .tuple cs' ∧ DVs C cs cs'
  | .junk, _ => False
 termination_by structural x => x
def DVs (C : Ctx) : List AV → List AV → Prop
  | [], l => l = []
  | a :: as, l => ∃ b bs, l = b :: bs ∧ DV C a b ∧ DVs C as bs
 termination_by structural x => x
def DVr (C : Ctx) : List (List AV) → List AV → Prop
  | [], l => l = []
  | r :: rs, l => ∃ a b, l = a ++ b ∧ DVs C r a ∧ DVr C rs b
 termination_by structural x => x
end

/-- Does a block stand for one of the second machine? (A list that is still empty does not.) -/
def real : DBlk → Bool
  | .rows _ [] true => false
  | _ => true
def Compat (i j : Id) : DBlk → DBlk → Prop
  | .cells _, .cells _ => j = i
  | .rows e rs g, .rows f us h => h = g ∧ ((us.length = rs.length ∧ f = e ∧ j = i) ∨ (g = true ∧ rs.length < us.length))
  | .map _ _, .map _ _ => j = i
  | _, _ => False
/-- What comes behind. -/
structure Ext (C D : Ctx) : Prop where
  len : C.L.length ≤ D.L.length
  frz : ∀ i, C.F i → D.F i ∧ D.H.get i = C.H.get i
  blk : ∀ k B, k < C.L.length → hget D.L k = some B → ∃ A, hget C.L k = some A ∧ Compat (C.m k) (D.m k) A B

theorem loadN_get {H G : AHeap} {i : Id} (h : G.get i = H.get i) (o n : Nat) : G.loadN i o n = H.loadN i o n := by
  unfold AHeap.loadN
  rw [h]

 mutual
theorem DV.ext {C D : Ctx} (h : Ext C D) : ∀ {a b : AV}, DV C a b → DV D a b
  | .bool _, _, r => r
  | .int _ _, _, r => r
  | .str _, _, r => r
  | .nilptr, _, r => r
  | .nilmap, _, r => r
  | .nilfunc, _, r => r
  | .niliface, _, r => r
  | .nilslc, _, r => r
  | .ptr (.n k) o, b, r => by
    obtain ⟨hk, i, p, hb, hc⟩ := r
    refine ⟨Nat.lt_of_lt_of_le hk h.len, i, p, hb, fun cs hcs => ?_⟩
    obtain ⟨A, hA, hcp⟩ := h.blk k _ hk hcs
    cases A with
    | cells as => obtain ⟨h1, h2⟩ := hc as hA; exact ⟨h1.trans hcp.symm, h2⟩
    | rows _ _ _ => exact hcp.elim
    | map _ _ => exact hcp.elim
  | .ptr (.o g) o, b, r => r
  | .fptr cs o, b, r => by
    obtain ⟨i, p, cs', hb, hF, hp, hl, hv⟩ := r
    obtain ⟨h1, h2⟩ := h.frz i hF
    exact ⟨i, p, cs', hb, h1, hp, by rw [loadN_get h2]; exact hl, DVs.ext h hv⟩
  | .eptr k ver row o, b, r => by
    obtain ⟨hk, i, p, hb, hc⟩ := r
    refine ⟨Nat.lt_of_lt_of_le hk h.len, i, p, hb, fun esz rs g hcs => ?_⟩
    obtain ⟨A, hA, hcp⟩ := h.blk k _ hk hcs
    cases A with
    | cells as => exact hcp.elim
    | map _ _ => exact hcp.elim
    | rows e us g' =>
      obtain ⟨h1, h2⟩ := hc e us g' hA
      obtain ⟨hg, ⟨c1, c2, c3⟩ | ⟨c1, c2⟩⟩ := hcp
      · rw [c1, c2, c3]; exact ⟨h1, h2⟩
      · exact ⟨by omega, fun he => by omega⟩
  | .slc (.n k) off len cap t, b, r => by
    obtain ⟨hk, hs, hc⟩ := r
    refine ⟨Nat.lt_of_lt_of_le hk h.len, hs, fun esz rs g hcs => ?_⟩
    obtain ⟨A, hA, hcp⟩ := h.blk k _ hk hcs
    cases A with
    | cells as => exact hcp.elim
    | map _ _ => exact hcp.elim
    | rows e us g' =>
      obtain ⟨h1, h2⟩ := hc e us g' hA
      obtain ⟨hg, ⟨c1, c2, c3⟩ | ⟨c1, c2⟩⟩ := hcp
      · subst hg
        refine ⟨by omega, fun hv => ?_⟩
        have hv' : validB us g off len cap = true := by
          unfold validB at hv ⊢
          rw [← c1]; exact hv
        have := h2 hv'
        have hnil : rs = [] ↔ us = [] := by
          rw [← List.length_eq_zero_iff, ← List.length_eq_zero_iff, c1]
        rw [c2, c3]
        simp only [hnil]
        exact this
      · subst hg
        refine ⟨by omega, fun hv => ?_⟩
        subst c1
        simp only [validB, Bool.and_eq_true, if_true, Nat.beq_eq] at hv
        omega
  | .slc (.o _) _ _ _ _, _, r => r
  | .lst rs, b, r => by
    obtain ⟨hp, hr⟩ := r
    refine ⟨hp, ?_⟩
    rcases hr with hr | ⟨esz, i, off, cap, t, cs', h1, h2, h3, h4, h5, h6⟩
    · exact .inl hr
    · obtain ⟨f1, f2⟩ := h.frz i h2
      exact .inr ⟨esz, i, off, cap, t, cs', h1, f1, h3, h4, by rw [loadN_get f2]; exact h5, DVr.ext h h6⟩
  | .map (.n k), b, r => by
    obtain ⟨hk, i, hb, hc⟩ := r
    refine ⟨Nat.lt_of_lt_of_le hk h.len, i, hb, fun es c hcs => ?_⟩
    obtain ⟨A, hA, hcp⟩ := h.blk k _ hk hcs
    cases A with
    | map es' c' => exact (hc es' c' hA).trans hcp.symm
    | rows _ _ _ => exact hcp.elim
    | cells _ => exact hcp.elim
  | .map (.o _), _, r => r
  | .func f x y, b, r => by
    obtain ⟨a', b', hb, h1, h2⟩ := r
    exact ⟨a', b', hb, DVs.ext h h1, DVs.ext h h2⟩
  | .iface t x, b, r => by
    obtain ⟨y, hb, h1⟩ := r
    exact ⟨y, hb, DV.ext h h1⟩
  | .agg cs, b, r => by
    obtain ⟨y, hb, h1⟩ := r
    exact ⟨y, hb, DVs.ext h h1⟩
  | .tuple cs, b, r => by
    obtain ⟨y, hb, h1⟩ := r
    exact ⟨y, hb, DVs.ext h h1⟩
  | .junk, _, r => r
 termination_by structural x => x
theorem DVs.ext {C D : Ctx} (h : Ext C D) : ∀ {as bs : List AV}, DVs C as bs → DVs D as bs
  | [], _, r => r
  | _ :: _, _, r => by
    obtain ⟨b, bs, hl, ha, has⟩ := r
    exact ⟨b, bs, hl, DV.ext h ha, DVs.ext h has⟩
 termination_by structural x => x
theorem DVr.ext {C D : Ctx} (h : Ext C D) : ∀ {rs : List (List AV)} {bs : List AV}, DVr C rs bs → DVr D rs bs
  | [], _, r => r
  | _ :: _, _, r => by
    obtain ⟨a, b, hl, ha, has⟩ := r
    exact ⟨a, b, hl, DVs.ext h ha, DVr.ext h has⟩
 termination_by structural x => x
end

section lists
variable {C : Ctx}
theorem DVs.nil : DVs C [] [] := rfl
theorem DVs.cons {a b : AV} {as bs : List AV} (h : DV C a b) (t : DVs C as bs) : DVs C (a :: as) (b :: bs) := ⟨b, bs, rfl, h, t⟩
theorem DVs.cons_iff {a b : AV} {as bs : List AV} : DVs C (a :: as) (b :: bs) ↔ DV C a b ∧ DVs C as bs := by
  constructor
  · rintro ⟨x, xs, h, h1, h2⟩
    injection h with e1 e2
    subst e1; subst e2
    exact ⟨h1, h2⟩
  · exact fun h => DVs.cons h.1 h.2
theorem DVs.one_iff {a : AV} {bs : List AV} : DVs C [a] bs ↔ ∃ b, bs = [b] ∧ DV C a b := by
  constructor
  · rintro ⟨b, bs, h, h1, h2⟩
    have h2 : bs = [] := h2
    subst h2
    exact ⟨b, h, h1⟩
  · rintro ⟨v, rfl, h⟩
    exact DVs.cons h DVs.nil
theorem DVs.length : ∀ {as bs : List AV}, DVs C as bs → as.length = bs.length
  | [], vs, h => by have : vs = [] := h; simp [this]
  | a :: as, vs, h => by
    obtain ⟨b, bs, rfl, _, h2⟩ := h
    simp [DVs.length h2]
theorem DVs.get : ∀ {as bs : List AV}, DVs C as bs → ∀ {j : Nat} {a : AV}, as[j]? = some a → ∃ b, bs[j]? = some b ∧ DV C a b
  | [], _, _, j, a, hj => by simp at hj
  | b :: bs, vs, h, j, a, hj => by
    obtain ⟨v, vs', rfl, hv, ht⟩ := h
    cases j with
    | zero => simp at hj; subst hj; exact ⟨v, rfl, hv⟩
    | succ j => simp at hj ⊢; exact DVs.get ht hj
theorem DVs.append : ∀ {as bs cs ds : List AV}, DVs C as bs → DVs C cs ds → DVs C (as ++ cs) (bs ++ ds)
  | [], vs, _, _, h, k => by have : vs = [] := h; subst this; exact k
  | a :: as, vs, _, _, h, k => by
    obtain ⟨v, vs', rfl, hv, ht⟩ := h
    exact DVs.cons hv (DVs.append ht k)
theorem DVs.take (n : Nat) : ∀ {as bs : List AV}, DVs C as bs → DVs C (as.take n) (bs.take n) := by
  induction n with
  | zero => intro as vs _; simpa using DVs.nil
  | succ n ih =>
    intro as vs h
    cases as with
    | nil => have : vs = [] := h; subst this; exact DVs.nil
    | cons a as => obtain ⟨v, vs', rfl, hv, ht⟩ := h; exact DVs.cons hv (ih ht)
theorem DVs.drop (n : Nat) : ∀ {as bs : List AV}, DVs C as bs → DVs C (as.drop n) (bs.drop n) := by
  induction n with
  | zero => intro as vs h; exact h
  | succ n ih =>
    intro as vs h
    cases as with
    | nil => have : vs = [] := h; subst this; exact DVs.nil
    | cons a as => obtain ⟨v, vs', rfl, hv, ht⟩ := h; exact ih ht
theorem DVs.lay {as bs : List AV} (h : DVs C as bs) (o : Nat) {xs ys : List AV} (k : DVs C xs ys) : DVs C (lay as o xs) (lay bs o ys) := by
  unfold Go.AI.lay
  rw [← k.length]
  exact ((h.take o).append k).append (h.drop _)
theorem DVs.seg {as bs : List AV} (h : DVs C as bs) {o n : Nat} {xs : List AV} (hs : seg as o n = some xs) : ∃ ys, seg bs o n = some ys ∧ DVs C xs ys := by
  unfold Go.AI.seg at hs ⊢
  rw [← h.length]
  split at hs
  · rename_i hle
    cases hs
    exact ⟨_, by rw [if_pos hle], (h.drop o).take n⟩
  · cases hs
theorem DVs.split : ∀ {as cs bs : List AV}, DVs C (as ++ cs) bs → ∃ x y, bs = x ++ y ∧ DVs C as x ∧ DVs C cs y
  | [], cs, bs, h => ⟨[], bs, rfl, rfl, h⟩
  | a :: as, cs, bs, h => by
    obtain ⟨b, bs', rfl, h1, h2⟩ := h
    obtain ⟨x, y, rfl, h3, h4⟩ := DVs.split h2
    exact ⟨b :: x, y, rfl, DVs.cons h1 h3, h4⟩

/-! rows -/
theorem DVr_iff : ∀ {rs : List (List AV)} {l : List AV}, DVr C rs l ↔ DVs C rs.flatten l
  | [], l => Iff.rfl
  | r :: rs, l => by
    constructor
    · rintro ⟨a, b, rfl, h1, h2⟩
      rw [List.flatten_cons]
      exact h1.append (DVr_iff.1 h2)
    · intro h
      rw [List.flatten_cons] at h
      obtain ⟨x, y, e, h1, h2⟩ := h.split
      exact ⟨x, y, e, h1, DVr_iff.2 h2⟩
theorem DV.cells {a b : AV} (h : DV C a b) (hj : a.ok = true) : DVs C a.cells b.cells := by
  cases a with
  | agg cs => obtain ⟨cs', rfl, hy⟩ := h; exact hy
  | junk => cases hj
  | tuple cs => obtain ⟨cs', rfl, hy⟩ := h; exact DVs.one_iff.2 ⟨_, rfl, cs', rfl, hy⟩
  | bool b => cases h; exact DVs.one_iff.2 ⟨_, rfl, rfl⟩
  | int k n => cases h; exact DVs.one_iff.2 ⟨_, rfl, rfl⟩
  | str s => cases h; exact DVs.one_iff.2 ⟨_, rfl, rfl⟩
  | nilptr => cases h; exact DVs.one_iff.2 ⟨_, rfl, rfl⟩
  | nilmap => cases h; exact DVs.one_iff.2 ⟨_, rfl, rfl⟩
  | nilfunc => cases h; exact DVs.one_iff.2 ⟨_, rfl, rfl⟩
  | niliface => cases h; exact DVs.one_iff.2 ⟨_, rfl, rfl⟩
  | nilslc =>
    refine DVs.one_iff.2 ⟨b, ?_, h⟩
    rcases h with rfl | ⟨i, off, rfl⟩ <;> rfl
  | ptr i o =>
    refine DVs.one_iff.2 ⟨b, ?_, h⟩
    cases i with
    | n k => obtain ⟨_, i, p, rfl, _⟩ := h; rfl
    | o g => cases h; rfl
  | fptr cs o =>
    refine DVs.one_iff.2 ⟨b, ?_, h⟩
    obtain ⟨i, p, cs', rfl, _⟩ := h; rfl
  | eptr k v r o =>
    refine DVs.one_iff.2 ⟨b, ?_, h⟩
    obtain ⟨_, i, p, rfl, _⟩ := h; rfl
  | slc i off len cap t =>
    refine DVs.one_iff.2 ⟨b, ?_, h⟩
    cases i with
    | n k =>
      obtain ⟨_, hs, _⟩ := h
      cases b <;> first | rfl | exact hs.elim
    | o g => exact h.elim
  | lst rs =>
    refine DVs.one_iff.2 ⟨b, ?_, h⟩
    obtain ⟨_, ⟨_, rfl | ⟨_, _, _, _, rfl⟩⟩ | ⟨_, _, _, _, _, _, rfl, _⟩⟩ := h <;> rfl
  | map i =>
    refine DVs.one_iff.2 ⟨b, ?_, h⟩
    cases i with
    | n k => obtain ⟨_, i, rfl, _⟩ := h; rfl
    | o g => exact h.elim
  | func f x y =>
    refine DVs.one_iff.2 ⟨b, ?_, h⟩
    obtain ⟨a', b', rfl, _⟩ := h; rfl
  | iface t x =>
    refine DVs.one_iff.2 ⟨b, ?_, h⟩
    obtain ⟨y, rfl, _⟩ := h; rfl
theorem DV.okb {a b : AV} (h : DV C a b) (hj : a.ok = true) : b.ok = true := by
  cases a with
  | agg cs => obtain ⟨cs', rfl, hy⟩ := h; rfl
  | junk => cases hj
  | tuple cs => obtain ⟨cs', rfl, hy⟩ := h; rfl
  | bool b => cases h; rfl
  | int k n => cases h; rfl
  | str s => cases h; rfl
  | nilptr => cases h; rfl
  | nilmap => cases h; rfl
  | nilfunc => cases h; rfl
  | niliface => cases h; rfl
  | nilslc => rcases h with rfl | ⟨i, off, rfl⟩ <;> rfl
  | ptr i o =>
    cases i with
    | n k => obtain ⟨_, i, p, rfl, _⟩ := h; rfl
    | o g => cases h; rfl
  | fptr cs o => obtain ⟨i, p, cs', rfl, _⟩ := h; rfl
  | eptr k v r o => obtain ⟨_, i, p, rfl, _⟩ := h; rfl
  | slc i off len cap t =>
    cases i with
    | n k =>
      obtain ⟨_, hs, _⟩ := h
      cases b <;> first | rfl | exact hs.elim
    | o g => exact h.elim
  | lst rs => obtain ⟨_, ⟨_, rfl | ⟨_, _, _, _, rfl⟩⟩ | ⟨_, _, _, _, _, _, rfl, _⟩⟩ := h <;> rfl
  | map i =>
    cases i with
    | n k => obtain ⟨_, i, rfl, _⟩ := h; rfl
    | o g => exact h.elim
  | func f x y => obtain ⟨a', b', rfl, _⟩ := h; rfl
  | iface t x => obtain ⟨y, rfl, _⟩ := h; rfl
theorem DV.oneb {a b : AV} (h : DV C a b) (hj : a.one = true) : b.one = true := by
  cases a with
  | agg cs => cases hj
  | junk => cases hj
  | tuple cs => cases hj
  | bool b => cases h; rfl
  | int k n => cases h; rfl
  | str s => cases h; rfl
  | nilptr => cases h; rfl
  | nilmap => cases h; rfl
  | nilfunc => cases h; rfl
  | niliface => cases h; rfl
  | nilslc => rcases h with rfl | ⟨i, off, rfl⟩ <;> rfl
  | ptr i o =>
    cases i with
    | n k => obtain ⟨_, i, p, rfl, _⟩ := h; rfl
    | o g => cases h; rfl
  | fptr cs o => obtain ⟨i, p, cs', rfl, _⟩ := h; rfl
  | eptr k v r o => obtain ⟨_, i, p, rfl, _⟩ := h; rfl
  | slc i off len cap t =>
    cases i with
    | n k =>
      obtain ⟨_, hs, _⟩ := h
      cases b <;> first | rfl | exact hs.elim
    | o g => exact h.elim
  | lst rs => obtain ⟨_, ⟨_, rfl | ⟨_, _, _, _, rfl⟩⟩ | ⟨_, _, _, _, _, _, rfl, _⟩⟩ := h <;> rfl
  | map i =>
    cases i with
    | n k => obtain ⟨_, i, rfl, _⟩ := h; rfl
    | o g => exact h.elim
  | func f x y => obtain ⟨a', b', rfl, _⟩ := h; rfl
  | iface t x => obtain ⟨y, rfl, _⟩ := h; rfl
theorem DVs.oneb : ∀ {as bs : List AV}, DVs C as bs → as.all AV.one = true → bs.all AV.one = true
  | [], bs, h, _ => by have : bs = [] := h; subst this; rfl
  | a :: as, bs, h, hj => by
    obtain ⟨b, bs', rfl, h1, h2⟩ := h
    rw [List.all_cons, Bool.and_eq_true] at hj ⊢
    exact ⟨h1.oneb hj.1, DVs.oneb h2 hj.2⟩
theorem DV.nrm {a b : AV} (h : DV C a b) : DV C (Go.AI.nrm a) b := by
  cases a <;> first
    | exact h
    | (rcases h with rfl | ⟨i, off, rfl⟩
       · exact ⟨rfl, .inl ⟨rfl, .inl rfl⟩⟩
       · exact ⟨rfl, .inl ⟨rfl, .inr ⟨_, _, _, _, rfl⟩⟩⟩)
theorem DVs.nrm : ∀ {as bs : List AV}, DVs C as bs → DVs C (as.map Go.AI.nrm) bs
  | [], _, h => h
  | _ :: _, _, h => by
    obtain ⟨b, bs', rfl, h1, h2⟩ := h
    exact DVs.cons h1.nrm (DVs.nrm h2)
theorem nrm_one {a : AV} : (Go.AI.nrm a).one = a.one := by cases a <;> rfl
end lists
end Go.AI
