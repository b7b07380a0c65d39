/- 'MovesAtOnce' returns true at every input of bulk at most 1048576, and the input reads afterwards as it read before. Conditions: those of the given row. -/
import Derived.Test.YtmjhiaedgpikdaaRA
import Derived.Test.YtmjhiaedgpikdaaN15
set_option linter.unusedSimpArgs false
set_option linter.unusedVariables false
namespace Go.Proofs.Ytmjhiaedgpikdaa.movesAtOnce
open Go.AI Go.ChangeShapes Go.WideShapes Go.ChangeAt Go.RowKit

set_option maxRecDepth 100000 in
theorem lifted (os : Os) (started : os.Started) (H : Type) (enc : TypeId × Value → H) (F : Stop.Interp) :
    ReturnsInHanded {} Try.checked os 4 .any ((Rows.OpenSpec.upto Rows.movesAtOnceSpec).pre6 enc Try.prog Try.f4 Rows.movesAtOnceUptoRow.domain false) (((Rows.OpenSpec.upto Rows.movesAtOnceSpec).at F).post enc Try.prog Try.f4 false true false false) := by
  refine lifted_upto (C := Try.checked) (A := aenv) (E := env) (s := Rows.OpenSpec.upto Rows.movesAtOnceSpec) (k := Rows.uptoSmall) (bk := Rows.uptoBulk) (N := 1048576) (m := 8) (tys := [.lst tyMove, tySrc]) aenv_ft aenv_ext env_ok pr_ok (fun _ => rfl) Try.mixed started rfl Try.own Try.laidOut (by kernel_rfl) Try.func4
    (OpenSpec.witness (enc := enc) (C := Try.checked) (s := Rows.OpenSpec.upto Rows.movesAtOnceSpec) (k := Rows.uptoSmall) rfl false ⟨#[], #[.slice none 0 0, .agg #[.int .i64 0, .int .i64 0, .int .u64 0]], []⟩ 8 (by kernel_rfl) (by kernel_rfl) (by kernel_rfl)
      (x := ([.nil, .agg [.lit (.int .i64 0), .lit (.int .i64 0), .lit (.int .u64 0)]], [], [])) (by kernel_rfl) rfl (by kernel_rfl)) rfl (by kernel_rfl) rfl rfl ?_ ?_ (bulkOk H) (bulk_bound H) (by kernel_rfl) ?_
  · intro ds hds
    obtain ⟨d0, d1, rfl⟩ := two_of hds
    rfl
  · exact reads_of (by kernel_rfl)
  · intro xs hx
    obtain ⟨ms, sc, rfl, hm⟩ := args_of hx
    exact law4 ms sc hm

theorem over : Rows.movesAtOnceUptoRow.holds Try.pinned (Rows.OpenSpec.upto Rows.movesAtOnceSpec) :=
  OpenClaim.holds_of_cond 4 Try.f4 rfl rfl rfl rfl rfl rfl rfl ⟨rfl, rfl, rfl, rfl, rfl⟩ rfl rfl rfl rfl rfl (by kernel_rfl) Try.func4 (by kernel_rfl)
    (of_decide_eq_true (by kernel_rfl)) (by unfold Func.isWrapper; first | (rw [if_pos (by decide +kernel)]; kernel_rfl) | (rw [if_neg (by decide +kernel)]; exact ⟨rfl, rfl⟩))
    (fun os started H enc _ F => lifted os started H enc F)

theorem proved : Rows.MovesAtOnceUptoSaid :=
  over
end Go.Proofs.Ytmjhiaedgpikdaa.movesAtOnce
