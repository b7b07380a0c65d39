/-
  No cell of these rows narrows 'for every input' (looked for: loops, veiled, ifaces, maps, wideKeys, modest, calm, conditions, laid).
  DERIVED. THE GIVEN ROWS OF THIS SEAT. 5 by the template 'for every input the law returns true; each argument reads behind the call as it read before'; 0 by the template 'total and deterministic' (their statements: YtmjhiaedgpikdaaTotals.lean).
  GIVEN WITH THE SEED: the statements are not yours to turn. If you find one false, say at which input.
  Laid BY PROGRAM, IN A SANDBOX (cutbox-rows.mjs): the forced cells as the released guide's own fill.sh prints them over the translation a8a9863ef1bb0e99… (all of the seat's roots in one cut). By AI agents, Wed Nov 11 2026. No macro, syntax, notation, axiom, sorry.
-/
import Derived.Test.YtmjhiaedgpikdaaChecked
import GoSem.Claim
import GoSem.ClaimJoined
import GoSem.ClaimMapViews
import Derived.JoinedTies
import Derived.KernelRfl
namespace Go.Proofs.Ytmjhiaedgpikdaa
/- THE CELL 'sum', in the pinned program and in every row, IS THE sha256 OF THE DUMP (.gsa) THAT YtmjhiaedgpikdaaProg.lean LOADS. Nothing in Lean hashes anything: it is a label: what it is worth is what the hold of that sum in a sandbox is worth. -/
noncomputable def Try.pinned : Pinned := { name := "ytmjhiaedgpikdaa", sum := "a8a9863ef1bb0e991f677329459ecf15f826a3f81482c733a676b27da7fc5940", checked := Try.checked }
namespace Rows
def none {H : Type} : Left H := { results := [], args := [] }

/-- 'tappetlaw15.MovesResolves': WHATEVER THE INPUT: true; the input reads as it did. -/
def movesResolvesSpec : ChangeSpec := { name := "movesResolves", fn := fun _ => fun
  | [d1, d2] => { results := [.lit (.bool true)], args := [d1, d2] }
  | _ => none }
def movesResolvesRow : OpenClaim := { program := "ytmjhiaedgpikdaa", sum := "a8a9863ef1bb0e991f677329459ecf15f826a3f81482c733a676b27da7fc5940", func := "tappet/tappetlaw15.MovesResolves", spec := "movesResolves", unfollowed := true, recurses := true, plainKeys := false, apart := false }
def MovesResolvesSaid : Prop := movesResolvesRow.holds Try.pinned (OpenSpec.ofChange movesResolvesSpec)

/-- ITS FALSE NEIGHBOUR: 'it returns false'. Refute it at one input. -/
def movesResolvesWrong : ChangeSpec := { name := "movesResolves", fn := fun _ => fun
  | [d1, d2] => { results := [.lit (.bool false)], args := [d1, d2] }
  | _ => none }
def MovesResolvesWrongFalsely : Prop := movesResolvesRow.holds Try.pinned (OpenSpec.ofChange movesResolvesWrong)

/-- 'tappetlaw15.MovesAtOnce': WHATEVER THE INPUT: true; the input reads as it did. -/
def movesAtOnceSpec : ChangeSpec := { name := "movesAtOnce", fn := fun _ => fun
  | [d1, d2] => { results := [.lit (.bool true)], args := [d1, d2] }
  | _ => none }
def movesAtOnceRow : OpenClaim := { program := "ytmjhiaedgpikdaa", sum := "a8a9863ef1bb0e991f677329459ecf15f826a3f81482c733a676b27da7fc5940", func := "tappet/tappetlaw15.MovesAtOnce", spec := "movesAtOnce", unfollowed := true, recurses := true, plainKeys := false, apart := false }
def MovesAtOnceSaid : Prop := movesAtOnceRow.holds Try.pinned (OpenSpec.ofChange movesAtOnceSpec)

/-- ITS FALSE NEIGHBOUR: 'it returns false'. Refute it at one input. -/
def movesAtOnceWrong : ChangeSpec := { name := "movesAtOnce", fn := fun _ => fun
  | [d1, d2] => { results := [.lit (.bool false)], args := [d1, d2] }
  | _ => none }
def MovesAtOnceWrongFalsely : Prop := movesAtOnceRow.holds Try.pinned (OpenSpec.ofChange movesAtOnceWrong)

/-- 'tappetlaw15.MovesFew': WHATEVER THE INPUT: true; the input reads as it did. -/
def movesFewSpec : ChangeSpec := { name := "movesFew", fn := fun _ => fun
  | [d1, d2] => { results := [.lit (.bool true)], args := [d1, d2] }
  | _ => none }
def movesFewRow : OpenClaim := { program := "ytmjhiaedgpikdaa", sum := "a8a9863ef1bb0e991f677329459ecf15f826a3f81482c733a676b27da7fc5940", func := "tappet/tappetlaw15.MovesFew", spec := "movesFew", unfollowed := true, recurses := true, plainKeys := false, apart := false }
def MovesFewSaid : Prop := movesFewRow.holds Try.pinned (OpenSpec.ofChange movesFewSpec)

/-- ITS FALSE NEIGHBOUR: 'it returns false'. Refute it at one input. -/
def movesFewWrong : ChangeSpec := { name := "movesFew", fn := fun _ => fun
  | [d1, d2] => { results := [.lit (.bool false)], args := [d1, d2] }
  | _ => none }
def MovesFewWrongFalsely : Prop := movesFewRow.holds Try.pinned (OpenSpec.ofChange movesFewWrong)

/-- 'tappetlaw15.MovesChain': WHATEVER THE INPUT: true; the input reads as it did. -/
def movesChainSpec : ChangeSpec := { name := "movesChain", fn := fun _ => fun
  | [d1, d2] => { results := [.lit (.bool true)], args := [d1, d2] }
  | _ => none }
def movesChainRow : OpenClaim := { program := "ytmjhiaedgpikdaa", sum := "a8a9863ef1bb0e991f677329459ecf15f826a3f81482c733a676b27da7fc5940", func := "tappet/tappetlaw15.MovesChain", spec := "movesChain", unfollowed := true, recurses := true, plainKeys := false, apart := false }
def MovesChainSaid : Prop := movesChainRow.holds Try.pinned (OpenSpec.ofChange movesChainSpec)

/-- ITS FALSE NEIGHBOUR: 'it returns false'. Refute it at one input. -/
def movesChainWrong : ChangeSpec := { name := "movesChain", fn := fun _ => fun
  | [d1, d2] => { results := [.lit (.bool false)], args := [d1, d2] }
  | _ => none }
def MovesChainWrongFalsely : Prop := movesChainRow.holds Try.pinned (OpenSpec.ofChange movesChainWrong)

/-- 'tappetlaw15.MovesTwice': WHATEVER THE INPUT: true; the input reads as it did. -/
def movesTwiceSpec : ChangeSpec := { name := "movesTwice", fn := fun _ => fun
  | [d1, d2] => { results := [.lit (.bool true)], args := [d1, d2] }
  | _ => none }
def movesTwiceRow : OpenClaim := { program := "ytmjhiaedgpikdaa", sum := "a8a9863ef1bb0e991f677329459ecf15f826a3f81482c733a676b27da7fc5940", func := "tappet/tappetlaw15.MovesTwice", spec := "movesTwice", unfollowed := true, recurses := true, plainKeys := false, apart := false }
def MovesTwiceSaid : Prop := movesTwiceRow.holds Try.pinned (OpenSpec.ofChange movesTwiceSpec)

/-- ITS FALSE NEIGHBOUR: 'it returns false'. Refute it at one input. -/
def movesTwiceWrong : ChangeSpec := { name := "movesTwice", fn := fun _ => fun
  | [d1, d2] => { results := [.lit (.bool false)], args := [d1, d2] }
  | _ => none }
def MovesTwiceWrongFalsely : Prop := movesTwiceRow.holds Try.pinned (OpenSpec.ofChange movesTwiceWrong)

/- THE SECOND FORM. 'bulk': how many values and letters a reading holds, each counted each time it is reached (what is shared counts as often as it is met; a slice's spare places count too). A statement '..UptoSaid' is the law's where the arguments, and the package variables that the reading takes, are together of bulk at most 1048576: NARROWER than '..Said'. Prove '..Said' where nothing that the law and all that it calls make is longer than what came in: it says more and counts as full. Else prove '..UptoSaid'. A law counts once. -/
mutual
def uptoBulk {H : Type} : DataW H → Nat
  | .lit (.string bytes) => bytes.length + 1
  | .lit _ => 1
  | .nil => 1
  | .ptr d => uptoBulk d + 1
  | .slice elems spare => uptoBulkAll elems + uptoBulkAll spare + 1
  | .agg parts => uptoBulkAll parts + 1
  | .iface _ d => uptoBulk d + 1
  | .map entries => uptoBulkEntries entries + 1
  | .held _ => 1
def uptoBulkAll {H : Type} : List (DataW H) → Nat
  | [] => 0
  | d :: r => uptoBulk d + uptoBulkAll r
def uptoBulkEntries {H : Type} : List (Lit × DataW H) → Nat
  | [] => 0
  | x :: r => uptoBulkEntry x + uptoBulkEntries r
def uptoBulkEntry {H : Type} : Lit × DataW H → Nat
  | (.string bytes, d) => bytes.length + uptoBulk d + 1
  | (_, d) => uptoBulk d + 1
 end
def uptoSmall : (H : Type) → List (DataW H) → Bool := fun _ ds => decide (uptoBulkAll ds ≤ 1048576)
def OpenSpec.upto (s : _root_.Go.ChangeSpec) : _root_.Go.OpenSpec := { _root_.Go.OpenSpec.ofChange s with cond := some uptoSmall }

/-- 'tappetlaw15.MovesResolves', WHERE WHAT IT READS IS OF BULK AT MOST 1048576: true; the input reads as it did. -/
def movesResolvesUptoRow : OpenClaim := { program := "ytmjhiaedgpikdaa", sum := "a8a9863ef1bb0e991f677329459ecf15f826a3f81482c733a676b27da7fc5940", func := "tappet/tappetlaw15.MovesResolves", spec := "movesResolves", unfollowed := true, recurses := true, plainKeys := false, apart := false, narrowed := true }
def MovesResolvesUptoSaid : Prop := movesResolvesUptoRow.holds Try.pinned (OpenSpec.upto movesResolvesSpec)

/-- 'tappetlaw15.MovesAtOnce', WHERE WHAT IT READS IS OF BULK AT MOST 1048576: true; the input reads as it did. -/
def movesAtOnceUptoRow : OpenClaim := { program := "ytmjhiaedgpikdaa", sum := "a8a9863ef1bb0e991f677329459ecf15f826a3f81482c733a676b27da7fc5940", func := "tappet/tappetlaw15.MovesAtOnce", spec := "movesAtOnce", unfollowed := true, recurses := true, plainKeys := false, apart := false, narrowed := true }
def MovesAtOnceUptoSaid : Prop := movesAtOnceUptoRow.holds Try.pinned (OpenSpec.upto movesAtOnceSpec)

/-- 'tappetlaw15.MovesFew', WHERE WHAT IT READS IS OF BULK AT MOST 1048576: true; the input reads as it did. -/
def movesFewUptoRow : OpenClaim := { program := "ytmjhiaedgpikdaa", sum := "a8a9863ef1bb0e991f677329459ecf15f826a3f81482c733a676b27da7fc5940", func := "tappet/tappetlaw15.MovesFew", spec := "movesFew", unfollowed := true, recurses := true, plainKeys := false, apart := false, narrowed := true }
def MovesFewUptoSaid : Prop := movesFewUptoRow.holds Try.pinned (OpenSpec.upto movesFewSpec)

/-- 'tappetlaw15.MovesChain', WHERE WHAT IT READS IS OF BULK AT MOST 1048576: true; the input reads as it did. -/
def movesChainUptoRow : OpenClaim := { program := "ytmjhiaedgpikdaa", sum := "a8a9863ef1bb0e991f677329459ecf15f826a3f81482c733a676b27da7fc5940", func := "tappet/tappetlaw15.MovesChain", spec := "movesChain", unfollowed := true, recurses := true, plainKeys := false, apart := false, narrowed := true }
def MovesChainUptoSaid : Prop := movesChainUptoRow.holds Try.pinned (OpenSpec.upto movesChainSpec)

/-- 'tappetlaw15.MovesTwice', WHERE WHAT IT READS IS OF BULK AT MOST 1048576: true; the input reads as it did. -/
def movesTwiceUptoRow : OpenClaim := { program := "ytmjhiaedgpikdaa", sum := "a8a9863ef1bb0e991f677329459ecf15f826a3f81482c733a676b27da7fc5940", func := "tappet/tappetlaw15.MovesTwice", spec := "movesTwice", unfollowed := true, recurses := true, plainKeys := false, apart := false, narrowed := true }
def MovesTwiceUptoSaid : Prop := movesTwiceUptoRow.holds Try.pinned (OpenSpec.upto movesTwiceSpec)

end Rows
end Go.Proofs.Ytmjhiaedgpikdaa
