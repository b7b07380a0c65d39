/- THE SECOND MACHINE, 2: what a value, a block, a heap of it stand for in the model's world. Own work. -/
import Derived.Test.YtmjhiaedgpikdaaA1
import Derived.Below
import Derived.Laws.AppendOwn
import Derived.Laws.Rows
set_option linter.unusedSimpArgs false
set_option linter.unusedVariables false
namespace Go.AI

structure Loc where
  blk : Nat
  off : Nat
  ext : Nat
  dead : Bool

abbrev Emb := Id → Option Loc

 mutual
def VR (φ : Emb) : AV → Value → Prop
  | .bool b, v => v = .bool b
  | .int k n, v => v = .int k n
  | .str s, v => v = .string s
  | .nilptr, v => v = .pointer none
  | .ptr i o, v => ∃ l, φ i = some l ∧ v = .pointer (some ⟨l.blk, l.off + o, none⟩)
  | .nilslc, v => v = .slice none 0 0
  | .slc i o len cap tail, v => len ≤ cap ∧ ∃ l, φ i = some l ∧ ∃ a c, v = .slice (some a) len c ∧
      c = cap + (if tail then l.ext else 0) ∧ (c ≠ 0 → a = ⟨l.blk, l.off + o, none⟩)
  | .nilmap, v => v = .map none
  | .map i, v => ∃ l, φ i = some l ∧ v = .map (some l.blk)
  | .func f a b, v => ∃ a' b', v = .func (.func f) a' b' ∧ VRs φ a a'.toList ∧ VRs φ b b'.toList
  | .nilfunc, v => v = .nilFunc
  | .iface t x, v => ∃ y, v = .iface t y ∧ VR φ x y
  | .niliface, v => v = .nilIface
  | .agg cs, v => ∃ cs', v = .agg cs' ∧ VRs φ cs cs'.toList
  | .tuple cs, v => ∃ cs', v = .tuple cs' ∧ VRs φ cs cs'.toList
  | .junk, _ => True
  | .lst _, _ => False
  | .fptr _ _, _ => False
  | .eptr _ _ _ _, _ => False
 termination_by structural x => x
def VRs (φ : Emb) : List AV → List Value → Prop
  | [], l => l = []
  | a :: as, l => ∃ b bs, l = b :: bs ∧ VR φ a b ∧ VRs φ as bs
 termination_by structural x => x
end

/-- A later embedding: what was told stays told; a block may have been let go. -/
def Emb.le (φ ψ : Emb) : Prop := ∀ i l, φ i = some l → ∃ d, ψ i = some { l with dead := d }
theorem Emb.le_refl (φ : Emb) : φ.le φ := fun _ l h => ⟨l.dead, h⟩
theorem Emb.le_trans {φ ψ χ : Emb} (h : φ.le ψ) (k : ψ.le χ) : φ.le χ := by
  intro i l hi
  obtain ⟨d, h1⟩ := h i l hi
  obtain ⟨e, h2⟩ := k i _ h1
  exact ⟨e, h2⟩

 mutual
theorem VR.mono {φ ψ : Emb} (h : φ.le ψ) : ∀ {a : AV} {v : Value}, VR φ a v → VR ψ a v
  | .bool _, _, r => r
  | .int _ _, _, r => r
  | .str _, _, r => r
  | .nilptr, _, r => r
  | .ptr i o, v, r => by
    obtain ⟨l, hl, hv⟩ := r
    obtain ⟨d, h1⟩ := h i l hl
    exact ⟨_, h1, hv⟩
  | .nilslc, _, r => r
  | .slc i o len cap tail, v, r => by
    obtain ⟨hle, l, hl, a, c, hv, hc⟩ := r
    obtain ⟨d, h1⟩ := h i l hl
    exact ⟨hle, _, h1, a, c, hv, hc⟩
  | .nilmap, _, r => r
  | .map i, v, r => by
    obtain ⟨l, hl, hv⟩ := r
    obtain ⟨d, h1⟩ := h i l hl
    exact ⟨_, h1, hv⟩
  | .func f a b, v, r => by
    obtain ⟨a', b', hv, ha, hb⟩ := r
    exact ⟨a', b', hv, VRs.mono h ha, VRs.mono h hb⟩
  | .nilfunc, _, r => r
  | .iface t x, v, r => by
    obtain ⟨y, hv, hy⟩ := r
    exact ⟨y, hv, VR.mono h hy⟩
  | .niliface, _, r => r
  | .agg cs, v, r => by
    obtain ⟨a', hv, ha⟩ := r
    exact ⟨a', hv, VRs.mono h ha⟩
  | .tuple cs, v, r => by
    obtain ⟨a', hv, ha⟩ := r
    exact ⟨a', hv, VRs.mono h ha⟩
  | .junk, _, _ => trivial
theorem VRs.mono {φ ψ : Emb} (h : φ.le ψ) : ∀ {as : List AV} {vs : List Value}, VRs φ as vs → VRs ψ as vs
  | [], _, r => r
  | _ :: _, _, r => by
    obtain ⟨b, bs, hl, ha, has⟩ := r
    exact ⟨b, bs, hl, VR.mono h ha, VRs.mono h has⟩
end

section lists
variable {φ : Emb}
theorem VRs.nil : VRs φ [] [] := rfl
theorem VRs.cons {a : AV} {v : Value} {as : List AV} {vs : List Value} (h : VR φ a v) (t : VRs φ as vs) : VRs φ (a :: as) (v :: vs) := ⟨v, vs, rfl, h, t⟩
theorem VRs.cons_iff {a : AV} {v : Value} {as : List AV} {vs : List Value} : VRs φ (a :: as) (v :: vs) ↔ VR φ a v ∧ VRs φ as vs := by
  constructor
  · rintro ⟨b, bs, h, h1, h2⟩
    injection h with e1 e2
    subst e1; subst e2
    exact ⟨h1, h2⟩
  · exact fun h => VRs.cons h.1 h.2
theorem VRs.not_cons_nil {a : AV} {as : List AV} (h : VRs φ (a :: as) []) : False := by
  obtain ⟨_, _, h, _⟩ := h
  cases h
theorem VRs.not_nil_cons {v : Value} {vs : List Value} (h : VRs φ [] (v :: vs)) : False := by
  have : (v :: vs) = [] := h
  cases this
theorem VRs.one_iff {a : AV} {vs : List Value} : VRs φ [a] vs ↔ ∃ v, vs = [v] ∧ VR φ a v := by
  constructor
  · rintro ⟨b, bs, h, h1, h2⟩
    have h2 : bs = [] := h2
    subst h2
    exact ⟨b, h, h1⟩
  · rintro ⟨v, rfl, h⟩
    exact VRs.cons h VRs.nil
theorem VRs.length : ∀ {as : List AV} {vs : List Value}, VRs φ as vs → as.length = vs.length
  | [], vs, h => by have : vs = [] := h; simp [this]
  | a :: as, vs, h => by
    obtain ⟨b, bs, rfl, _, h2⟩ := h
    simp [VRs.length h2]
theorem VRs.get : ∀ {as : List AV} {vs : List Value}, VRs φ as vs → ∀ {j : Nat} {a : AV}, as[j]? = some a → ∃ v, vs[j]? = some v ∧ VR φ a v
  | [], _, _, j, a, hj => by simp at hj
  | b :: bs, vs, h, j, a, hj => by
    obtain ⟨v, vs', rfl, hv, ht⟩ := h
    cases j with
    | zero => simp at hj; subst hj; exact ⟨v, rfl, hv⟩
    | succ j => simp at hj ⊢; exact VRs.get ht hj
theorem VRs.append : ∀ {as : List AV} {vs : List Value} {bs : List AV} {us : List Value}, VRs φ as vs → VRs φ bs us → VRs φ (as ++ bs) (vs ++ us)
  | [], vs, _, _, h, k => by have : vs = [] := h; subst this; exact k
  | a :: as, vs, _, _, h, k => by
    obtain ⟨v, vs', rfl, hv, ht⟩ := h
    exact VRs.cons hv (VRs.append ht k)
theorem VRs.take (n : Nat) : ∀ {as : List AV} {vs : List Value}, VRs φ as vs → VRs φ (as.take n) (vs.take n) := by
  induction n with
  | zero => intro as vs _; simpa using VRs.nil
  | succ n ih =>
    intro as vs h
    cases as with
    | nil => have : vs = [] := h; subst this; exact VRs.nil
    | cons a as => obtain ⟨v, vs', rfl, hv, ht⟩ := h; exact VRs.cons hv (ih ht)
theorem VRs.drop (n : Nat) : ∀ {as : List AV} {vs : List Value}, VRs φ as vs → VRs φ (as.drop n) (vs.drop n) := by
  induction n with
  | zero => intro as vs h; exact h
  | succ n ih =>
    intro as vs h
    cases as with
    | nil => have : vs = [] := h; subst this; exact VRs.nil
    | cons a as => obtain ⟨v, vs', rfl, hv, ht⟩ := h; exact ih ht
theorem VRs.replicate {a : AV} {v : Value} (h : VR φ a v) (n : Nat) : VRs φ (List.replicate n a) (List.replicate n v) := by
  induction n with
  | zero => exact VRs.nil
  | succ n ih => exact VRs.cons h ih
theorem VRs.map {α : Type} (f : α → AV) (g : α → Value) : ∀ (l : List α), (∀ x ∈ l, VR φ (f x) (g x)) → VRs φ (l.map f) (l.map g)
  | [], _ => VRs.nil
  | x :: l, h => VRs.cons (h x (by simp)) (VRs.map f g l fun y hy => h y (by simp [hy]))
theorem VRs.of_get : ∀ {as : List AV} {vs : List Value}, as.length = vs.length → (∀ (j : Nat) (a : AV) (v : Value), as[j]? = some a → vs[j]? = some v → VR φ a v) → VRs φ as vs
  | [], [], _, _ => VRs.nil
  | [], _ :: _, h, _ => by simp at h
  | _ :: _, [], h, _ => by simp at h
  | a :: as, v :: vs, h, k => VRs.cons (k 0 a v rfl rfl) (VRs.of_get (by simpa using h) fun j x y hx hy => k (j + 1) x y (by simpa using hx) (by simpa using hy))
theorem VR.cells {a : AV} {v : Value} (h : VR φ a v) (hj : a.ok = true) : VRs φ a.cells v.cells.toList := by
  cases a <;> simp only [AV.cells] <;> first
    | (simp [AV.ok] at hj; done)
    | exact False.elim h
    | (obtain ⟨l, hl, hv⟩ := h; subst hv; exact VRs.one_iff.2 ⟨_, rfl, l, hl, rfl⟩)
    | (obtain ⟨hle, l, hl, a', c, hv, hd⟩ := h; subst hv; exact VRs.one_iff.2 ⟨_, rfl, hle, l, hl, _, _, rfl, hd⟩)
    | (have h' := h; simp only [VR] at h'; subst h'; exact VRs.one_iff.2 ⟨_, rfl, h⟩)
    | skip
  case func f x y => obtain ⟨a', b', hv, ha, hb⟩ := h; subst hv; exact VRs.one_iff.2 ⟨_, rfl, a', b', rfl, ha, hb⟩
  case iface t x => obtain ⟨y, hv, hy⟩ := h; subst hv; exact VRs.one_iff.2 ⟨_, rfl, y, rfl, hy⟩
  case agg cs => obtain ⟨cs', hv, hy⟩ := h; subst hv; exact hy
  case tuple cs => obtain ⟨cs', hv, hy⟩ := h; subst hv; exact VRs.one_iff.2 ⟨_, rfl, cs', rfl, hy⟩
theorem VR.oneCell {a : AV} {v : Value} (h : VR φ a v) (h1 : a.one = true) : v.oneCell' = true := by
  cases a <;> first
    | (simp [AV.one] at h1; done)
    | exact False.elim h
    | (obtain ⟨l, hl, hv⟩ := h; subst hv; rfl)
    | (obtain ⟨hle, l, hl, a', c, hv, hd⟩ := h; subst hv; rfl)
    | (have h' := h; simp only [VR] at h'; subst h'; rfl)
    | skip
  case func f x y => obtain ⟨a', b', hv, ha, hb⟩ := h; subst hv; rfl
  case iface t x => obtain ⟨y, hv, hy⟩ := h; subst hv; rfl
end lists
end Go.AI
