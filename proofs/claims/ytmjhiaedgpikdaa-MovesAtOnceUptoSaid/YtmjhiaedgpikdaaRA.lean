/- What a call of these laws reads, as plain data; the bound on it. Own work. -/
import Derived.Test.YtmjhiaedgpikdaaNA
import Derived.Test.YtmjhiaedgpikdaaB11
import Derived.WalkKit
import Derived.ProofKit
import Derived.OpenShut
import Derived.JoinedCond
set_option linter.unusedSimpArgs false
set_option linter.unusedVariables false
namespace Go.Proofs.Ytmjhiaedgpikdaa
open Go.AI Go.ChangeShapes Go.WideShapes Go.ChangeAt Go.RowKit

theorem Try.own : ownKnob Try.prog.godebug = none := by kernel_rfl
theorem Try.laidOut : laidOutB Try.prog = true := by kernel_rfl
theorem Try.mixed : Try.prog.follows .mixedOrders = true := by kernel_rfl
theorem aenv_ext : ExtOk Try.prog aenv := fun f g h => by cases h
theorem aenv_ft : ∀ f fn, aenv.ft f = some fn → trF Try.checked.prog f = some fn := fun f fn h => (ft_ok f fn h).1

theorem bulk_one {H : Type} (d : DataW H) : 1 ≤ Rows.uptoBulk d := by
  cases d with
  | lit l => cases l <;> simp [Rows.uptoBulk]
  | nil => simp [Rows.uptoBulk]
  | ptr d => simp [Rows.uptoBulk]
  | slice elems spare => simp [Rows.uptoBulk]
  | agg parts => simp [Rows.uptoBulk]
  | iface t d => simp [Rows.uptoBulk]
  | map entries => simp [Rows.uptoBulk]
  | held h => simp [Rows.uptoBulk]
theorem bulk_part {H : Type} {d : DataW H} : ∀ {l : List (DataW H)}, d ∈ l → Rows.uptoBulk d ≤ Rows.uptoBulkAll l
  | [], h => by cases h
  | x :: r, h => by
    simp only [Rows.uptoBulkAll]
    rcases List.mem_cons.1 h with rfl | h
    · omega
    · have := bulk_part h
      omega
theorem bulk_len {H : Type} : ∀ l : List (DataW H), l.length ≤ Rows.uptoBulkAll l
  | [] => by simp [Rows.uptoBulkAll]
  | x :: r => by
    have := bulk_one x
    have := bulk_len r
    simp only [Rows.uptoBulkAll, List.length_cons]
    omega
theorem bulkOk (H : Type) : BulkOk (H := H) Rows.uptoBulk := by
  refine ⟨fun e s => ?_, fun e s d hd => ?_, fun l d hd => ?_⟩
  · have := bulk_len e
    simp only [Rows.uptoBulk]
    omega
  · have := bulk_part hd
    simp only [Rows.uptoBulk]
    omega
  · have := bulk_part hd
    simp only [Rows.uptoBulk]
    omega
theorem bulk_bound (H : Type) (ds : List (DataW H)) (h : Rows.uptoSmall H ds = true) : ∀ d ∈ ds, Rows.uptoBulk d ≤ 1048576 := by
  intro d hd
  have h1 := of_decide_eq_true h
  have h2 := bulk_part hd
  omega

theorem two_of {α : Type} {n : Nat} {l : List α} (h : l.length = n) (hn : n = 2 := by kernel_rfl) : ∃ a b, l = [a, b] := by
  subst hn
  match l, h with
  | [a, b], _ => exact ⟨a, b, rfl⟩
theorem reads_of {l : List TypeId} (h : (l.all fun t => Try.prog.readableRec t && decide (t < Try.prog.types.size)) = true) : ∀ t ∈ l, Try.prog.readableRec t = true ∧ t < Try.prog.types.size := by
  intro t ht
  have := List.all_eq_true.1 h t ht
  rw [Bool.and_eq_true] at this
  exact ⟨this.1, of_decide_eq_true this.2⟩

def tySrc : Ty := .st [.int .i64, .int .i64, .int .u64]
def tyMove : Ty := .st [tySrc, tySrc]
theorem src_of {N : Nat} {cs : List AV} (h : PTy N tySrc cs) : ∃ s : Src, cs = eC s := by
  obtain ⟨a, b, rfl, ⟨x, rfl, _⟩, c, d, rfl, ⟨y, rfl, _⟩, e, f, rfl, ⟨z, rfl, _⟩, h⟩ := h
  have h : f = [] := h
  subst h
  exact ⟨(x, y, z), rfl⟩
theorem move_of {N : Nat} {cs : List AV} (h : PTy N tyMove cs) : ∃ m : Move, cs = eM m := by
  obtain ⟨a, b, rfl, h1, c, d, rfl, h2, h⟩ := h
  have h : d = [] := h
  subst h
  obtain ⟨s, rfl⟩ := src_of h1
  obtain ⟨t, rfl⟩ := src_of h2
  exact ⟨(s, t), rfl⟩
theorem rows_of {α : Type} {f : α → List AV} : ∀ {rs : List (List AV)}, (∀ r ∈ rs, ∃ m, r = f m) → ∃ ms : List α, rs = ms.map f
  | [], _ => ⟨[], rfl⟩
  | r :: rs, h => by
    obtain ⟨m, rfl⟩ := h r List.mem_cons_self
    obtain ⟨ms, rfl⟩ := rows_of (rs := rs) fun x hx => h x (List.mem_cons_of_mem _ hx)
    exact ⟨m :: ms, rfl⟩
/-- The arguments of a law of these. -/
theorem args_of {N : Nat} {xs : List AV} (h : PVs N [.lst tyMove, tySrc] xs) : ∃ (ms : List Move) (sc : Src), xs = [.lst (ms.map eM), eS sc] ∧ ms.length ≤ N := by
  obtain ⟨v, r, rfl, ⟨rs, e, h1, h2⟩, w, r2, rfl, ⟨cs, rfl, h3⟩, h4⟩ := h
  have h4 : r2 = [] := h4
  subst h4
  cases e
  obtain ⟨ms, rfl⟩ := rows_of fun r hr => move_of (h2 r hr)
  obtain ⟨sc, rfl⟩ := src_of h3
  exact ⟨ms, sc, rfl, by rwa [List.length_map] at h1⟩
end Go.Proofs.Ytmjhiaedgpikdaa
