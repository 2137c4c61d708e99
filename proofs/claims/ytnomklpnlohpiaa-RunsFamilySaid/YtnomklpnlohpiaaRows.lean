/-
  No cell of these rows narrows 'for every input' (looked for: loops, veiled, ifaces, maps, wideKeys, modest, calm, conditions, laid).
  DERIVED. THE GIVEN ROWS OF THIS SEAT. 3 by the template 'for every input the law returns true; each argument reads behind the call as it read before'; 0 by the template 'total and deterministic' (their statements: YtnomklpnlohpiaaTotals.lean).
  GIVEN WITH THE SEED: the statements are not yours to turn. If you find one false, say at which input.
  Laid BY PROGRAM, IN A SANDBOX (cutbox-rows.mjs): the forced cells as the released guide's own fill.sh prints them over the translation 5b169f670bc916fb… (all of the seat's roots in one cut). By AI agents, Wed Nov 11 2026. No macro, syntax, notation, axiom, sorry.
-/
import Derived.Test.YtnomklpnlohpiaaChecked
import GoSem.Claim
import GoSem.ClaimJoined
import GoSem.ClaimMapViews
import Derived.JoinedTies
import Derived.KernelRfl
namespace Go.Proofs.Ytnomklpnlohpiaa
/- THE CELL 'sum', in the pinned program and in every row, IS THE sha256 OF THE DUMP (.gsa) THAT YtnomklpnlohpiaaProg.lean LOADS. Nothing in Lean hashes anything: it is a label: what it is worth is what the hold of that sum in a sandbox is worth. -/
noncomputable def Try.pinned : Pinned := { name := "ytnomklpnlohpiaa", sum := "5b169f670bc916fb6132df89c0e60b93f980411d4b1a3170eadf4928da37740f", checked := Try.checked }
namespace Rows
def none {H : Type} : Left H := { results := [], args := [] }

/-- 'flyleaflaw22.RunsCounts': WHATEVER THE INPUT: true; the input reads as it did. -/
def runsCountsSpec : ChangeSpec := { name := "runsCounts", fn := fun _ => fun
  | [d1, d2] => { results := [.lit (.bool true)], args := [d1, d2] }
  | _ => none }
def runsCountsRow : OpenClaim := { program := "ytnomklpnlohpiaa", sum := "5b169f670bc916fb6132df89c0e60b93f980411d4b1a3170eadf4928da37740f", func := "flyleaf/flyleaflaw22.RunsCounts", spec := "runsCounts", apart := false }
def RunsCountsSaid : Prop := runsCountsRow.holds Try.pinned (OpenSpec.ofChange runsCountsSpec)

/-- ITS FALSE NEIGHBOUR: 'it returns false'. Refute it at one input. -/
def runsCountsWrong : ChangeSpec := { name := "runsCounts", fn := fun _ => fun
  | [d1, d2] => { results := [.lit (.bool false)], args := [d1, d2] }
  | _ => none }
def RunsCountsWrongFalsely : Prop := runsCountsRow.holds Try.pinned (OpenSpec.ofChange runsCountsWrong)

/-- 'flyleaflaw22.RunsLeft': WHATEVER THE INPUT: true; the input reads as it did. -/
def runsLeftSpec : ChangeSpec := { name := "runsLeft", fn := fun _ => fun
  | [d1, d2, d3] => { results := [.lit (.bool true)], args := [d1, d2, d3] }
  | _ => none }
def runsLeftRow : OpenClaim := { program := "ytnomklpnlohpiaa", sum := "5b169f670bc916fb6132df89c0e60b93f980411d4b1a3170eadf4928da37740f", func := "flyleaf/flyleaflaw22.RunsLeft", spec := "runsLeft", apart := false }
def RunsLeftSaid : Prop := runsLeftRow.holds Try.pinned (OpenSpec.ofChange runsLeftSpec)

/-- ITS FALSE NEIGHBOUR: 'it returns false'. Refute it at one input. -/
def runsLeftWrong : ChangeSpec := { name := "runsLeft", fn := fun _ => fun
  | [d1, d2, d3] => { results := [.lit (.bool false)], args := [d1, d2, d3] }
  | _ => none }
def RunsLeftWrongFalsely : Prop := runsLeftRow.holds Try.pinned (OpenSpec.ofChange runsLeftWrong)

/-- 'flyleaflaw22.RunsFamily': WHATEVER THE INPUT: true; the input reads as it did. -/
def runsFamilySpec : ChangeSpec := { name := "runsFamily", fn := fun _ => fun
  | [d1, d2] => { results := [.lit (.bool true)], args := [d1, d2] }
  | _ => none }
def runsFamilyRow : OpenClaim := { program := "ytnomklpnlohpiaa", sum := "5b169f670bc916fb6132df89c0e60b93f980411d4b1a3170eadf4928da37740f", func := "flyleaf/flyleaflaw22.RunsFamily", spec := "runsFamily", unfollowed := true, recurses := true, apart := false }
def RunsFamilySaid : Prop := runsFamilyRow.holds Try.pinned (OpenSpec.ofChange runsFamilySpec)

/-- ITS FALSE NEIGHBOUR: 'it returns false'. Refute it at one input. -/
def runsFamilyWrong : ChangeSpec := { name := "runsFamily", fn := fun _ => fun
  | [d1, d2] => { results := [.lit (.bool false)], args := [d1, d2] }
  | _ => none }
def RunsFamilyWrongFalsely : Prop := runsFamilyRow.holds Try.pinned (OpenSpec.ofChange runsFamilyWrong)

/- THE SECOND FORM. 'bulk': how many values and letters a reading holds, each counted each time it is reached (what is shared counts as often as it is met; a slice's spare places count too). A statement '..UptoSaid' is the law's where the arguments, and the package variables that the reading takes, are together of bulk at most 1048576: NARROWER than '..Said'. Prove '..Said' where nothing that the law and all that it calls make is longer than what came in: it says more and counts as full. Else prove '..UptoSaid'. A law counts once. -/
mutual
def uptoBulk {H : Type} : DataW H → Nat
  | .lit (.string bytes) => bytes.length + 1
  | .lit _ => 1
  | .nil => 1
  | .ptr d => uptoBulk d + 1
  | .slice elems spare => uptoBulkAll elems + uptoBulkAll spare + 1
  | .agg parts => uptoBulkAll parts + 1
  | .iface _ d => uptoBulk d + 1
  | .map entries => uptoBulkEntries entries + 1
  | .held _ => 1
def uptoBulkAll {H : Type} : List (DataW H) → Nat
  | [] => 0
  | d :: r => uptoBulk d + uptoBulkAll r
def uptoBulkEntries {H : Type} : List (Lit × DataW H) → Nat
  | [] => 0
  | x :: r => uptoBulkEntry x + uptoBulkEntries r
def uptoBulkEntry {H : Type} : Lit × DataW H → Nat
  | (.string bytes, d) => bytes.length + uptoBulk d + 1
  | (_, d) => uptoBulk d + 1
 end
def uptoSmall : (H : Type) → List (DataW H) → Bool := fun _ ds => decide (uptoBulkAll ds ≤ 1048576)
def OpenSpec.upto (s : _root_.Go.ChangeSpec) : _root_.Go.OpenSpec := { _root_.Go.OpenSpec.ofChange s with cond := some uptoSmall }

/-- 'flyleaflaw22.RunsCounts', WHERE WHAT IT READS IS OF BULK AT MOST 1048576: true; the input reads as it did. -/
def runsCountsUptoRow : OpenClaim := { program := "ytnomklpnlohpiaa", sum := "5b169f670bc916fb6132df89c0e60b93f980411d4b1a3170eadf4928da37740f", func := "flyleaf/flyleaflaw22.RunsCounts", spec := "runsCounts", apart := false, narrowed := true }
def RunsCountsUptoSaid : Prop := runsCountsUptoRow.holds Try.pinned (OpenSpec.upto runsCountsSpec)

/-- 'flyleaflaw22.RunsLeft', WHERE WHAT IT READS IS OF BULK AT MOST 1048576: true; the input reads as it did. -/
def runsLeftUptoRow : OpenClaim := { program := "ytnomklpnlohpiaa", sum := "5b169f670bc916fb6132df89c0e60b93f980411d4b1a3170eadf4928da37740f", func := "flyleaf/flyleaflaw22.RunsLeft", spec := "runsLeft", apart := false, narrowed := true }
def RunsLeftUptoSaid : Prop := runsLeftUptoRow.holds Try.pinned (OpenSpec.upto runsLeftSpec)

/-- 'flyleaflaw22.RunsFamily', WHERE WHAT IT READS IS OF BULK AT MOST 1048576: true; the input reads as it did. -/
def runsFamilyUptoRow : OpenClaim := { program := "ytnomklpnlohpiaa", sum := "5b169f670bc916fb6132df89c0e60b93f980411d4b1a3170eadf4928da37740f", func := "flyleaf/flyleaflaw22.RunsFamily", spec := "runsFamily", unfollowed := true, recurses := true, apart := false, narrowed := true }
def RunsFamilyUptoSaid : Prop := runsFamilyUptoRow.holds Try.pinned (OpenSpec.upto runsFamilySpec)

end Rows
end Go.Proofs.Ytnomklpnlohpiaa
