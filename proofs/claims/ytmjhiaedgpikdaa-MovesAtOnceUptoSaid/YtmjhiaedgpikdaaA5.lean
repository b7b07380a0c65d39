/- THE SECOND MACHINE, 5: the model's operations read as those of the second machine (by a function, which the kernel runs over the loaded program). Own work. -/
import Derived.Test.YtmjhiaedgpikdaaA4
import GoSem.Dispatch
set_option linter.unusedSimpArgs false
set_option linter.unusedVariables false
namespace Go.AI

/-- A constant of one cell without an address. -/
def absS : Value → Option AV
  | .bool b => some (.bool b)
  | .int k n => some (.int k n)
  | .string s => some (.str s)
  | .pointer none => some .nilptr
  | .slice none 0 0 => some .nilslc
  | .map none => some .nilmap
  | .nilFunc => some .nilfunc
  | .nilIface => some .niliface
  | _ => none
def absL : List Value → Option (List AV)
  | [] => some []
  | v :: r => match absS v, absL r with
    | some a, some l => some (a :: l)
    | _, _ => none
def absC : Value → Option AV
  | .agg cs => (absL cs.toList).map .agg
  | .tuple cs => (absL cs.toList).map .tuple
  | .iface t v => (absS v).map (.iface t)
  | v => absS v

theorem absS_VR {φ : Emb} {v : Value} {a : AV} (h : absS v = some a) : VR φ a v := by
  unfold absS at h
  split at h <;> first | (cases h; rfl) | (cases h)
theorem absL_VR {φ : Emb} : ∀ {l : List Value} {as : List AV}, absL l = some as → VRs φ as l
  | [], as, h => by cases h; rfl
  | v :: r, as, h => by
    unfold absL at h
    split at h
    · rename_i a l ha hl
      cases h
      exact VRs.cons (absS_VR ha) (absL_VR hl)
    · cases h
theorem absC_VR {φ : Emb} {v : Value} {a : AV} (h : absC v = some a) : VR φ a v := by
  cases v with
  | agg cs =>
    simp only [absC, Option.map_eq_some_iff] at h
    obtain ⟨l, hl, rfl⟩ := h
    exact ⟨cs, rfl, absL_VR hl⟩
  | tuple cs =>
    simp only [absC, Option.map_eq_some_iff] at h
    obtain ⟨l, hl, rfl⟩ := h
    exact ⟨cs, rfl, absL_VR hl⟩
  | iface t v =>
    simp only [absC, Option.map_eq_some_iff] at h
    obtain ⟨l, hl, rfl⟩ := h
    exact ⟨v, rfl, absS_VR hl⟩
  | _ => exact absS_VR h

def trX : Operand → Option X
  | .tmp t => some (.t t)
  | .const v => (absC v).map .c
  | .global g => some (.c (.ptr (.o g) 0))
  | .func f => some (.c (.func f [] []))
def trXs : List Operand → Option (List X)
  | [] => some []
  | x :: r => match trX x, trXs r with
    | some a, some l => some (a :: l)
    | _, _ => none
def trO : Option Operand → Option (Option X)
  | none => some none
  | some x => (trX x).map some

section types
variable (P : Program)
def selT (t : TypeId) : Option (Option Nat) :=
  match P.underlying t with
  | some (.struct _) | some (.array _ _) => (P.info? t).map fun i => some i.size
  | some _ => some none
  | none => none
def sizeT (t : TypeId) : Option Nat := (P.info? t).map (·.size)
def zeroT (t : TypeId) : Option AV := ((P.info? t).bind (·.zero)).bind absC
def zeroCellsT (t : TypeId) : Option (List AV) :=
  match zeroT P t, sizeT P t with
  | some z, some n => if z.ok = true ∧ z.cells.length = n then some z.cells else none
  | _, _ => none
def flatFs (g : TypeId → Option (List CK)) : List Field → Nat → Option (List CK)
  | [], _ => some []
  | f :: r, o =>
    if f.name = "_" ∨ f.offset ≠ o then none else
    match g f.type with
    | none => none
    | some ks => match flatFs g r (o + ks.length) with
      | none => none
      | some l => some (ks ++ l)
/-- A type all of whose cells are bools, numbers or strings, compared one by one: the kinds of its cells. -/
def flatK : Nat → TypeId → Option (List CK)
  | 0, _ => none
  | d + 1, t => match P.underlying t, sizeT P t with
    | some .bool, some 1 => some [.bool]
    | some (.int _), some 1 => some [.int]
    | some .string, some 1 => some [.str]
    | some (.struct fs), some n =>
      if P.stoodInHeld t = true then none else
      match flatFs (flatK d) fs.toList 0 with
      | some ks => if ks.length = n then some ks else none
      | none => none
    | _, _ => none
end types
end Go.AI
