/-
  No cell of these rows narrows 'for every input' (looked for: loops, veiled, ifaces, maps, wideKeys, modest, calm, conditions, laid).
  DERIVED. THE GIVEN ROWS OF THIS SEAT. 12 by the template 'for every input the law returns true; each argument reads behind the call as it read before'; 0 by the template 'total and deterministic' (their statements: YtbcpnfkjncpdcaaTotals.lean).
  GIVEN WITH THE SEED: the statements are not yours to turn. If you find one false, say at which input.
  Laid BY PROGRAM, IN A SANDBOX (cutbox-rows.mjs): the forced cells as the released guide's own fill.sh prints them over the translation bba744607ac69abe… (all of the seat's roots in one cut). By AI agents, Wed Nov 11 2026. No macro, syntax, notation, axiom, sorry.
-/
import Derived.Test.YtbcpnfkjncpdcaaChecked
import GoSem.Claim
import GoSem.ClaimJoined
import GoSem.ClaimMapViews
import Derived.JoinedTies
import Derived.KernelRfl
namespace Go.Proofs.Ytbcpnfkjncpdcaa
/- THE CELL 'sum', in the pinned program and in every row, IS THE sha256 OF THE DUMP (.gsa) THAT YtbcpnfkjncpdcaaProg.lean LOADS. Nothing in Lean hashes anything: it is a label: what it is worth is what the hold of that sum in a sandbox is worth. -/
noncomputable def Try.pinned : Pinned := { name := "ytbcpnfkjncpdcaa", sum := "bba744607ac69abecfd7d202d2693e23b365a2e03dcec67bdc08fa5bb9da7d5a", checked := Try.checked }
namespace Rows
def none {H : Type} : Left H := { results := [], args := [] }

/-- 'flyleaflaw03.BlockOf': WHATEVER THE INPUT: true; the input reads as it did. -/
def blockOfSpec : ChangeSpec := { name := "blockOf", fn := fun _ => fun
  | [d] => { results := [.lit (.bool true)], args := [d] }
  | _ => none }
def blockOfRow : OpenClaim := { program := "ytbcpnfkjncpdcaa", sum := "bba744607ac69abecfd7d202d2693e23b365a2e03dcec67bdc08fa5bb9da7d5a", func := "flyleaf/flyleaflaw03.BlockOf", spec := "blockOf", unfollowed := true, recurses := true, apart := false }
def BlockOfSaid : Prop := blockOfRow.holds Try.pinned (OpenSpec.ofChange blockOfSpec)

/-- ITS FALSE NEIGHBOUR: 'it returns false'. Refute it at one input. -/
def blockOfWrong : ChangeSpec := { name := "blockOf", fn := fun _ => fun
  | [d] => { results := [.lit (.bool false)], args := [d] }
  | _ => none }
def BlockOfWrongFalsely : Prop := blockOfRow.holds Try.pinned (OpenSpec.ofChange blockOfWrong)

/-- 'flyleaflaw03.BlockSeals': WHATEVER THE INPUT: true; the input reads as it did. -/
def blockSealsSpec : ChangeSpec := { name := "blockSeals", fn := fun _ => fun
  | [d] => { results := [.lit (.bool true)], args := [d] }
  | _ => none }
def blockSealsRow : OpenClaim := { program := "ytbcpnfkjncpdcaa", sum := "bba744607ac69abecfd7d202d2693e23b365a2e03dcec67bdc08fa5bb9da7d5a", func := "flyleaf/flyleaflaw03.BlockSeals", spec := "blockSeals", unfollowed := true, recurses := true, apart := false }
def BlockSealsSaid : Prop := blockSealsRow.holds Try.pinned (OpenSpec.ofChange blockSealsSpec)

/-- ITS FALSE NEIGHBOUR: 'it returns false'. Refute it at one input. -/
def blockSealsWrong : ChangeSpec := { name := "blockSeals", fn := fun _ => fun
  | [d] => { results := [.lit (.bool false)], args := [d] }
  | _ => none }
def BlockSealsWrongFalsely : Prop := blockSealsRow.holds Try.pinned (OpenSpec.ofChange blockSealsWrong)

/-- 'flyleaflaw03.BlockLast': WHATEVER THE INPUT: true; the input reads as it did. -/
def blockLastSpec : ChangeSpec := { name := "blockLast", fn := fun _ => fun
  | [d1, d2, d3] => { results := [.lit (.bool true)], args := [d1, d2, d3] }
  | _ => none }
def blockLastRow : OpenClaim := { program := "ytbcpnfkjncpdcaa", sum := "bba744607ac69abecfd7d202d2693e23b365a2e03dcec67bdc08fa5bb9da7d5a", func := "flyleaf/flyleaflaw03.BlockLast", spec := "blockLast", unfollowed := true, recurses := true, apart := false }
def BlockLastSaid : Prop := blockLastRow.holds Try.pinned (OpenSpec.ofChange blockLastSpec)

/-- ITS FALSE NEIGHBOUR: 'it returns false'. Refute it at one input. -/
def blockLastWrong : ChangeSpec := { name := "blockLast", fn := fun _ => fun
  | [d1, d2, d3] => { results := [.lit (.bool false)], args := [d1, d2, d3] }
  | _ => none }
def BlockLastWrongFalsely : Prop := blockLastRow.holds Try.pinned (OpenSpec.ofChange blockLastWrong)

/-- 'flyleaflaw03.BlockPlays': WHATEVER THE INPUT: true; the input reads as it did. -/
def blockPlaysSpec : ChangeSpec := { name := "blockPlays", fn := fun _ => fun
  | [d1, d2] => { results := [.lit (.bool true)], args := [d1, d2] }
  | _ => none }
def blockPlaysRow : OpenClaim := { program := "ytbcpnfkjncpdcaa", sum := "bba744607ac69abecfd7d202d2693e23b365a2e03dcec67bdc08fa5bb9da7d5a", func := "flyleaf/flyleaflaw03.BlockPlays", spec := "blockPlays", unfollowed := true, recurses := true, apart := false }
def BlockPlaysSaid : Prop := blockPlaysRow.holds Try.pinned (OpenSpec.ofChange blockPlaysSpec)

/-- ITS FALSE NEIGHBOUR: 'it returns false'. Refute it at one input. -/
def blockPlaysWrong : ChangeSpec := { name := "blockPlays", fn := fun _ => fun
  | [d1, d2] => { results := [.lit (.bool false)], args := [d1, d2] }
  | _ => none }
def BlockPlaysWrongFalsely : Prop := blockPlaysRow.holds Try.pinned (OpenSpec.ofChange blockPlaysWrong)

/-- 'flyleaflaw03.BlockNil': WHATEVER THE INPUT: true; the input reads as it did. -/
def blockNilSpec : ChangeSpec := { name := "blockNil", fn := fun _ => fun
  | [d] => { results := [.lit (.bool true)], args := [d] }
  | _ => none }
def blockNilRow : OpenClaim := { program := "ytbcpnfkjncpdcaa", sum := "bba744607ac69abecfd7d202d2693e23b365a2e03dcec67bdc08fa5bb9da7d5a", func := "flyleaf/flyleaflaw03.BlockNil", spec := "blockNil", unfollowed := true, recurses := true, apart := false }
def BlockNilSaid : Prop := blockNilRow.holds Try.pinned (OpenSpec.ofChange blockNilSpec)

/-- ITS FALSE NEIGHBOUR: 'it returns false'. Refute it at one input. -/
def blockNilWrong : ChangeSpec := { name := "blockNil", fn := fun _ => fun
  | [d] => { results := [.lit (.bool false)], args := [d] }
  | _ => none }
def BlockNilWrongFalsely : Prop := blockNilRow.holds Try.pinned (OpenSpec.ofChange blockNilWrong)

/-- 'flyleaflaw03.BlockCounts': WHATEVER THE INPUT: true; the input reads as it did. -/
def blockCountsSpec : ChangeSpec := { name := "blockCounts", fn := fun _ => fun
  | [d1, d2] => { results := [.lit (.bool true)], args := [d1, d2] }
  | _ => none }
def blockCountsRow : OpenClaim := { program := "ytbcpnfkjncpdcaa", sum := "bba744607ac69abecfd7d202d2693e23b365a2e03dcec67bdc08fa5bb9da7d5a", func := "flyleaf/flyleaflaw03.BlockCounts", spec := "blockCounts", unfollowed := true, recurses := true, apart := false }
def BlockCountsSaid : Prop := blockCountsRow.holds Try.pinned (OpenSpec.ofChange blockCountsSpec)

/-- ITS FALSE NEIGHBOUR: 'it returns false'. Refute it at one input. -/
def blockCountsWrong : ChangeSpec := { name := "blockCounts", fn := fun _ => fun
  | [d1, d2] => { results := [.lit (.bool false)], args := [d1, d2] }
  | _ => none }
def BlockCountsWrongFalsely : Prop := blockCountsRow.holds Try.pinned (OpenSpec.ofChange blockCountsWrong)

/-- 'flyleaflaw05.SwapMakes': WHATEVER THE INPUT: true; the input reads as it did. -/
def swapMakesSpec : ChangeSpec := { name := "swapMakes", fn := fun _ => fun
  | [d1, d2, d3] => { results := [.lit (.bool true)], args := [d1, d2, d3] }
  | _ => none }
def swapMakesRow : OpenClaim := { program := "ytbcpnfkjncpdcaa", sum := "bba744607ac69abecfd7d202d2693e23b365a2e03dcec67bdc08fa5bb9da7d5a", func := "flyleaf/flyleaflaw05.SwapMakes", spec := "swapMakes", unfollowed := true, recurses := true, apart := false }
def SwapMakesSaid : Prop := swapMakesRow.holds Try.pinned (OpenSpec.ofChange swapMakesSpec)

/-- ITS FALSE NEIGHBOUR: 'it returns false'. Refute it at one input. -/
def swapMakesWrong : ChangeSpec := { name := "swapMakes", fn := fun _ => fun
  | [d1, d2, d3] => { results := [.lit (.bool false)], args := [d1, d2, d3] }
  | _ => none }
def SwapMakesWrongFalsely : Prop := swapMakesRow.holds Try.pinned (OpenSpec.ofChange swapMakesWrong)

/-- 'flyleaflaw05.SwapKeeps': WHATEVER THE INPUT: true; the input reads as it did. -/
def swapKeepsSpec : ChangeSpec := { name := "swapKeeps", fn := fun _ => fun
  | [d] => { results := [.lit (.bool true)], args := [d] }
  | _ => none }
def swapKeepsRow : OpenClaim := { program := "ytbcpnfkjncpdcaa", sum := "bba744607ac69abecfd7d202d2693e23b365a2e03dcec67bdc08fa5bb9da7d5a", func := "flyleaf/flyleaflaw05.SwapKeeps", spec := "swapKeeps", unfollowed := true, recurses := true, apart := false }
def SwapKeepsSaid : Prop := swapKeepsRow.holds Try.pinned (OpenSpec.ofChange swapKeepsSpec)

/-- ITS FALSE NEIGHBOUR: 'it returns false'. Refute it at one input. -/
def swapKeepsWrong : ChangeSpec := { name := "swapKeeps", fn := fun _ => fun
  | [d] => { results := [.lit (.bool false)], args := [d] }
  | _ => none }
def SwapKeepsWrongFalsely : Prop := swapKeepsRow.holds Try.pinned (OpenSpec.ofChange swapKeepsWrong)

/-- 'flyleaflaw05.SwapPlaces': WHATEVER THE INPUT: true; the input reads as it did. -/
def swapPlacesSpec : ChangeSpec := { name := "swapPlaces", fn := fun _ => fun
  | [d1, d2] => { results := [.lit (.bool true)], args := [d1, d2] }
  | _ => none }
def swapPlacesRow : OpenClaim := { program := "ytbcpnfkjncpdcaa", sum := "bba744607ac69abecfd7d202d2693e23b365a2e03dcec67bdc08fa5bb9da7d5a", func := "flyleaf/flyleaflaw05.SwapPlaces", spec := "swapPlaces", unfollowed := true, recurses := true, apart := false }
def SwapPlacesSaid : Prop := swapPlacesRow.holds Try.pinned (OpenSpec.ofChange swapPlacesSpec)

/-- ITS FALSE NEIGHBOUR: 'it returns false'. Refute it at one input. -/
def swapPlacesWrong : ChangeSpec := { name := "swapPlaces", fn := fun _ => fun
  | [d1, d2] => { results := [.lit (.bool false)], args := [d1, d2] }
  | _ => none }
def SwapPlacesWrongFalsely : Prop := swapPlacesRow.holds Try.pinned (OpenSpec.ofChange swapPlacesWrong)

/-- 'flyleaflaw05.SwapHolds': WHATEVER THE INPUT: true; the input reads as it did. -/
def swapHoldsSpec : ChangeSpec := { name := "swapHolds", fn := fun _ => fun
  | [d] => { results := [.lit (.bool true)], args := [d] }
  | _ => none }
def swapHoldsRow : OpenClaim := { program := "ytbcpnfkjncpdcaa", sum := "bba744607ac69abecfd7d202d2693e23b365a2e03dcec67bdc08fa5bb9da7d5a", func := "flyleaf/flyleaflaw05.SwapHolds", spec := "swapHolds", unfollowed := true, recurses := true, apart := false }
def SwapHoldsSaid : Prop := swapHoldsRow.holds Try.pinned (OpenSpec.ofChange swapHoldsSpec)

/-- ITS FALSE NEIGHBOUR: 'it returns false'. Refute it at one input. -/
def swapHoldsWrong : ChangeSpec := { name := "swapHolds", fn := fun _ => fun
  | [d] => { results := [.lit (.bool false)], args := [d] }
  | _ => none }
def SwapHoldsWrongFalsely : Prop := swapHoldsRow.holds Try.pinned (OpenSpec.ofChange swapHoldsWrong)

/-- 'flyleaflaw05.SwapPlays': WHATEVER THE INPUT: true; the input reads as it did. -/
def swapPlaysSpec : ChangeSpec := { name := "swapPlays", fn := fun _ => fun
  | [d1, d2] => { results := [.lit (.bool true)], args := [d1, d2] }
  | _ => none }
def swapPlaysRow : OpenClaim := { program := "ytbcpnfkjncpdcaa", sum := "bba744607ac69abecfd7d202d2693e23b365a2e03dcec67bdc08fa5bb9da7d5a", func := "flyleaf/flyleaflaw05.SwapPlays", spec := "swapPlays", unfollowed := true, recurses := true, apart := false }
def SwapPlaysSaid : Prop := swapPlaysRow.holds Try.pinned (OpenSpec.ofChange swapPlaysSpec)

/-- ITS FALSE NEIGHBOUR: 'it returns false'. Refute it at one input. -/
def swapPlaysWrong : ChangeSpec := { name := "swapPlays", fn := fun _ => fun
  | [d1, d2] => { results := [.lit (.bool false)], args := [d1, d2] }
  | _ => none }
def SwapPlaysWrongFalsely : Prop := swapPlaysRow.holds Try.pinned (OpenSpec.ofChange swapPlaysWrong)

/-- 'flyleaflaw05.SwapNil': WHATEVER THE INPUT: true; the input reads as it did. -/
def swapNilSpec : ChangeSpec := { name := "swapNil", fn := fun _ => fun
  | [d] => { results := [.lit (.bool true)], args := [d] }
  | _ => none }
def swapNilRow : OpenClaim := { program := "ytbcpnfkjncpdcaa", sum := "bba744607ac69abecfd7d202d2693e23b365a2e03dcec67bdc08fa5bb9da7d5a", func := "flyleaf/flyleaflaw05.SwapNil", spec := "swapNil", unfollowed := true, recurses := true, apart := false }
def SwapNilSaid : Prop := swapNilRow.holds Try.pinned (OpenSpec.ofChange swapNilSpec)

/-- ITS FALSE NEIGHBOUR: 'it returns false'. Refute it at one input. -/
def swapNilWrong : ChangeSpec := { name := "swapNil", fn := fun _ => fun
  | [d] => { results := [.lit (.bool false)], args := [d] }
  | _ => none }
def SwapNilWrongFalsely : Prop := swapNilRow.holds Try.pinned (OpenSpec.ofChange swapNilWrong)

/- THE SECOND FORM. 'bulk': how many values and letters a reading holds, each counted each time it is reached (what is shared counts as often as it is met; a slice's spare places count too). A statement '..UptoSaid' is the law's where the arguments, and the package variables that the reading takes, are together of bulk at most 1048576: NARROWER than '..Said'. Prove '..Said' where nothing that the law and all that it calls make is longer than what came in: it says more and counts as full. Else prove '..UptoSaid'. A law counts once. -/
mutual
def uptoBulk {H : Type} : DataW H → Nat
  | .lit (.string bytes) => bytes.length + 1
  | .lit _ => 1
  | .nil => 1
  | .ptr d => uptoBulk d + 1
  | .slice elems spare => uptoBulkAll elems + uptoBulkAll spare + 1
  | .agg parts => uptoBulkAll parts + 1
  | .iface _ d => uptoBulk d + 1
  | .map entries => uptoBulkEntries entries + 1
  | .held _ => 1
def uptoBulkAll {H : Type} : List (DataW H) → Nat
  | [] => 0
  | d :: r => uptoBulk d + uptoBulkAll r
def uptoBulkEntries {H : Type} : List (Lit × DataW H) → Nat
  | [] => 0
  | x :: r => uptoBulkEntry x + uptoBulkEntries r
def uptoBulkEntry {H : Type} : Lit × DataW H → Nat
  | (.string bytes, d) => bytes.length + uptoBulk d + 1
  | (_, d) => uptoBulk d + 1
 end
def uptoSmall : (H : Type) → List (DataW H) → Bool := fun _ ds => decide (uptoBulkAll ds ≤ 1048576)
def OpenSpec.upto (s : _root_.Go.ChangeSpec) : _root_.Go.OpenSpec := { _root_.Go.OpenSpec.ofChange s with cond := some uptoSmall }

/-- 'flyleaflaw03.BlockOf', WHERE WHAT IT READS IS OF BULK AT MOST 1048576: true; the input reads as it did. -/
def blockOfUptoRow : OpenClaim := { program := "ytbcpnfkjncpdcaa", sum := "bba744607ac69abecfd7d202d2693e23b365a2e03dcec67bdc08fa5bb9da7d5a", func := "flyleaf/flyleaflaw03.BlockOf", spec := "blockOf", unfollowed := true, recurses := true, apart := false, narrowed := true }
def BlockOfUptoSaid : Prop := blockOfUptoRow.holds Try.pinned (OpenSpec.upto blockOfSpec)

/-- 'flyleaflaw03.BlockSeals', WHERE WHAT IT READS IS OF BULK AT MOST 1048576: true; the input reads as it did. -/
def blockSealsUptoRow : OpenClaim := { program := "ytbcpnfkjncpdcaa", sum := "bba744607ac69abecfd7d202d2693e23b365a2e03dcec67bdc08fa5bb9da7d5a", func := "flyleaf/flyleaflaw03.BlockSeals", spec := "blockSeals", unfollowed := true, recurses := true, apart := false, narrowed := true }
def BlockSealsUptoSaid : Prop := blockSealsUptoRow.holds Try.pinned (OpenSpec.upto blockSealsSpec)

/-- 'flyleaflaw03.BlockLast', WHERE WHAT IT READS IS OF BULK AT MOST 1048576: true; the input reads as it did. -/
def blockLastUptoRow : OpenClaim := { program := "ytbcpnfkjncpdcaa", sum := "bba744607ac69abecfd7d202d2693e23b365a2e03dcec67bdc08fa5bb9da7d5a", func := "flyleaf/flyleaflaw03.BlockLast", spec := "blockLast", unfollowed := true, recurses := true, apart := false, narrowed := true }
def BlockLastUptoSaid : Prop := blockLastUptoRow.holds Try.pinned (OpenSpec.upto blockLastSpec)

/-- 'flyleaflaw03.BlockPlays', WHERE WHAT IT READS IS OF BULK AT MOST 1048576: true; the input reads as it did. -/
def blockPlaysUptoRow : OpenClaim := { program := "ytbcpnfkjncpdcaa", sum := "bba744607ac69abecfd7d202d2693e23b365a2e03dcec67bdc08fa5bb9da7d5a", func := "flyleaf/flyleaflaw03.BlockPlays", spec := "blockPlays", unfollowed := true, recurses := true, apart := false, narrowed := true }
def BlockPlaysUptoSaid : Prop := blockPlaysUptoRow.holds Try.pinned (OpenSpec.upto blockPlaysSpec)

/-- 'flyleaflaw03.BlockNil', WHERE WHAT IT READS IS OF BULK AT MOST 1048576: true; the input reads as it did. -/
def blockNilUptoRow : OpenClaim := { program := "ytbcpnfkjncpdcaa", sum := "bba744607ac69abecfd7d202d2693e23b365a2e03dcec67bdc08fa5bb9da7d5a", func := "flyleaf/flyleaflaw03.BlockNil", spec := "blockNil", unfollowed := true, recurses := true, apart := false, narrowed := true }
def BlockNilUptoSaid : Prop := blockNilUptoRow.holds Try.pinned (OpenSpec.upto blockNilSpec)

/-- 'flyleaflaw03.BlockCounts', WHERE WHAT IT READS IS OF BULK AT MOST 1048576: true; the input reads as it did. -/
def blockCountsUptoRow : OpenClaim := { program := "ytbcpnfkjncpdcaa", sum := "bba744607ac69abecfd7d202d2693e23b365a2e03dcec67bdc08fa5bb9da7d5a", func := "flyleaf/flyleaflaw03.BlockCounts", spec := "blockCounts", unfollowed := true, recurses := true, apart := false, narrowed := true }
def BlockCountsUptoSaid : Prop := blockCountsUptoRow.holds Try.pinned (OpenSpec.upto blockCountsSpec)

/-- 'flyleaflaw05.SwapMakes', WHERE WHAT IT READS IS OF BULK AT MOST 1048576: true; the input reads as it did. -/
def swapMakesUptoRow : OpenClaim := { program := "ytbcpnfkjncpdcaa", sum := "bba744607ac69abecfd7d202d2693e23b365a2e03dcec67bdc08fa5bb9da7d5a", func := "flyleaf/flyleaflaw05.SwapMakes", spec := "swapMakes", unfollowed := true, recurses := true, apart := false, narrowed := true }
def SwapMakesUptoSaid : Prop := swapMakesUptoRow.holds Try.pinned (OpenSpec.upto swapMakesSpec)

/-- 'flyleaflaw05.SwapKeeps', WHERE WHAT IT READS IS OF BULK AT MOST 1048576: true; the input reads as it did. -/
def swapKeepsUptoRow : OpenClaim := { program := "ytbcpnfkjncpdcaa", sum := "bba744607ac69abecfd7d202d2693e23b365a2e03dcec67bdc08fa5bb9da7d5a", func := "flyleaf/flyleaflaw05.SwapKeeps", spec := "swapKeeps", unfollowed := true, recurses := true, apart := false, narrowed := true }
def SwapKeepsUptoSaid : Prop := swapKeepsUptoRow.holds Try.pinned (OpenSpec.upto swapKeepsSpec)

/-- 'flyleaflaw05.SwapPlaces', WHERE WHAT IT READS IS OF BULK AT MOST 1048576: true; the input reads as it did. -/
def swapPlacesUptoRow : OpenClaim := { program := "ytbcpnfkjncpdcaa", sum := "bba744607ac69abecfd7d202d2693e23b365a2e03dcec67bdc08fa5bb9da7d5a", func := "flyleaf/flyleaflaw05.SwapPlaces", spec := "swapPlaces", unfollowed := true, recurses := true, apart := false, narrowed := true }
def SwapPlacesUptoSaid : Prop := swapPlacesUptoRow.holds Try.pinned (OpenSpec.upto swapPlacesSpec)

/-- 'flyleaflaw05.SwapHolds', WHERE WHAT IT READS IS OF BULK AT MOST 1048576: true; the input reads as it did. -/
def swapHoldsUptoRow : OpenClaim := { program := "ytbcpnfkjncpdcaa", sum := "bba744607ac69abecfd7d202d2693e23b365a2e03dcec67bdc08fa5bb9da7d5a", func := "flyleaf/flyleaflaw05.SwapHolds", spec := "swapHolds", unfollowed := true, recurses := true, apart := false, narrowed := true }
def SwapHoldsUptoSaid : Prop := swapHoldsUptoRow.holds Try.pinned (OpenSpec.upto swapHoldsSpec)

/-- 'flyleaflaw05.SwapPlays', WHERE WHAT IT READS IS OF BULK AT MOST 1048576: true; the input reads as it did. -/
def swapPlaysUptoRow : OpenClaim := { program := "ytbcpnfkjncpdcaa", sum := "bba744607ac69abecfd7d202d2693e23b365a2e03dcec67bdc08fa5bb9da7d5a", func := "flyleaf/flyleaflaw05.SwapPlays", spec := "swapPlays", unfollowed := true, recurses := true, apart := false, narrowed := true }
def SwapPlaysUptoSaid : Prop := swapPlaysUptoRow.holds Try.pinned (OpenSpec.upto swapPlaysSpec)

/-- 'flyleaflaw05.SwapNil', WHERE WHAT IT READS IS OF BULK AT MOST 1048576: true; the input reads as it did. -/
def swapNilUptoRow : OpenClaim := { program := "ytbcpnfkjncpdcaa", sum := "bba744607ac69abecfd7d202d2693e23b365a2e03dcec67bdc08fa5bb9da7d5a", func := "flyleaf/flyleaflaw05.SwapNil", spec := "swapNil", unfollowed := true, recurses := true, apart := false, narrowed := true }
def SwapNilUptoSaid : Prop := swapNilUptoRow.holds Try.pinned (OpenSpec.upto swapNilSpec)

end Rows
end Go.Proofs.Ytbcpnfkjncpdcaa
