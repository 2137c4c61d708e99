/-
  No cell of these rows narrows 'for every input' (looked for: loops, veiled, ifaces, maps, wideKeys, modest, calm, conditions, laid).
  DERIVED. THE GIVEN ROWS OF THIS SEAT. 5 by the template 'for every input the law returns true; each argument reads behind the call as it read before'; 0 by the template 'total and deterministic' (their statements: YtjhggfpnafhonaaTotals.lean).
  GIVEN WITH THE SEED: the statements are not yours to turn. If you find one false, say at which input.
  Laid BY PROGRAM, IN A SANDBOX (cutbox-rows.mjs): the forced cells as the released guide's own fill.sh prints them over the translation 6e4e1590e2ca2fbf… (all of the seat's roots in one cut). By AI agents, Wed Nov 11 2026. No macro, syntax, notation, axiom, sorry.
-/
import Derived.Test.YtjhggfpnafhonaaChecked
import GoSem.Claim
import GoSem.ClaimJoined
import GoSem.ClaimMapViews
import Derived.JoinedTies
import Derived.KernelRfl
namespace Go.Proofs.Ytjhggfpnafhonaa
/- THE CELL 'sum', in the pinned program and in every row, IS THE sha256 OF THE DUMP (.gsa) THAT YtjhggfpnafhonaaProg.lean LOADS. Nothing in Lean hashes anything: it is a label: what it is worth is what the hold of that sum in a sandbox is worth. -/
noncomputable def Try.pinned : Pinned := { name := "ytjhggfpnafhonaa", sum := "6e4e1590e2ca2fbf60690fbe3e2f0f4295a546c19202b4df70e2cc02b401e87f", checked := Try.checked }
namespace Rows
def none {H : Type} : Left H := { results := [], args := [] }

/-- 'flyleaflaw20.ProcOrphans': WHATEVER THE INPUT: true; the input reads as it did. -/
def procOrphansSpec : ChangeSpec := { name := "procOrphans", fn := fun _ => fun
  | [d1, d2] => { results := [.lit (.bool true)], args := [d1, d2] }
  | _ => none }
def procOrphansRow : OpenClaim := { program := "ytjhggfpnafhonaa", sum := "6e4e1590e2ca2fbf60690fbe3e2f0f4295a546c19202b4df70e2cc02b401e87f", func := "flyleaf/flyleaflaw20.ProcOrphans", spec := "procOrphans", unfollowed := true, recurses := true, apart := false }
def ProcOrphansSaid : Prop := procOrphansRow.holds Try.pinned (OpenSpec.ofChange procOrphansSpec)

/-- ITS FALSE NEIGHBOUR: 'it returns false'. Refute it at one input. -/
def procOrphansWrong : ChangeSpec := { name := "procOrphans", fn := fun _ => fun
  | [d1, d2] => { results := [.lit (.bool false)], args := [d1, d2] }
  | _ => none }
def ProcOrphansWrongFalsely : Prop := procOrphansRow.holds Try.pinned (OpenSpec.ofChange procOrphansWrong)

/-- 'flyleaflaw20.ProcNil': WHATEVER THE INPUT: true; the input reads as it did. -/
def procNilSpec : ChangeSpec := { name := "procNil", fn := fun _ => fun
  | [d] => { results := [.lit (.bool true)], args := [d] }
  | _ => none }
def procNilRow : OpenClaim := { program := "ytjhggfpnafhonaa", sum := "6e4e1590e2ca2fbf60690fbe3e2f0f4295a546c19202b4df70e2cc02b401e87f", func := "flyleaf/flyleaflaw20.ProcNil", spec := "procNil", unfollowed := true, recurses := true, apart := false }
def ProcNilSaid : Prop := procNilRow.holds Try.pinned (OpenSpec.ofChange procNilSpec)

/-- ITS FALSE NEIGHBOUR: 'it returns false'. Refute it at one input. -/
def procNilWrong : ChangeSpec := { name := "procNil", fn := fun _ => fun
  | [d] => { results := [.lit (.bool false)], args := [d] }
  | _ => none }
def ProcNilWrongFalsely : Prop := procNilRow.holds Try.pinned (OpenSpec.ofChange procNilWrong)

/-- 'flyleaflaw20.ProcOnce': WHATEVER THE INPUT: true; the input reads as it did. -/
def procOnceSpec : ChangeSpec := { name := "procOnce", fn := fun _ => fun
  | [d] => { results := [.lit (.bool true)], args := [d] }
  | _ => none }
def procOnceRow : OpenClaim := { program := "ytjhggfpnafhonaa", sum := "6e4e1590e2ca2fbf60690fbe3e2f0f4295a546c19202b4df70e2cc02b401e87f", func := "flyleaf/flyleaflaw20.ProcOnce", spec := "procOnce", unfollowed := true, recurses := true, apart := false }
def ProcOnceSaid : Prop := procOnceRow.holds Try.pinned (OpenSpec.ofChange procOnceSpec)

/-- ITS FALSE NEIGHBOUR: 'it returns false'. Refute it at one input. -/
def procOnceWrong : ChangeSpec := { name := "procOnce", fn := fun _ => fun
  | [d] => { results := [.lit (.bool false)], args := [d] }
  | _ => none }
def ProcOnceWrongFalsely : Prop := procOnceRow.holds Try.pinned (OpenSpec.ofChange procOnceWrong)

/-- 'flyleaflaw20.ProcNumbers': WHATEVER THE INPUT: true; the input reads as it did. -/
def procNumbersSpec : ChangeSpec := { name := "procNumbers", fn := fun _ => fun
  | [d] => { results := [.lit (.bool true)], args := [d] }
  | _ => none }
def procNumbersRow : OpenClaim := { program := "ytjhggfpnafhonaa", sum := "6e4e1590e2ca2fbf60690fbe3e2f0f4295a546c19202b4df70e2cc02b401e87f", func := "flyleaf/flyleaflaw20.ProcNumbers", spec := "procNumbers", unfollowed := true, recurses := true, apart := false }
def ProcNumbersSaid : Prop := procNumbersRow.holds Try.pinned (OpenSpec.ofChange procNumbersSpec)

/-- ITS FALSE NEIGHBOUR: 'it returns false'. Refute it at one input. -/
def procNumbersWrong : ChangeSpec := { name := "procNumbers", fn := fun _ => fun
  | [d] => { results := [.lit (.bool false)], args := [d] }
  | _ => none }
def ProcNumbersWrongFalsely : Prop := procNumbersRow.holds Try.pinned (OpenSpec.ofChange procNumbersWrong)

/-- 'flyleaflaw20.ProcFull': WHATEVER THE INPUT: true; the input reads as it did. -/
def procFullSpec : ChangeSpec := { name := "procFull", fn := fun _ => fun
  | [d] => { results := [.lit (.bool true)], args := [d] }
  | _ => none }
def procFullRow : OpenClaim := { program := "ytjhggfpnafhonaa", sum := "6e4e1590e2ca2fbf60690fbe3e2f0f4295a546c19202b4df70e2cc02b401e87f", func := "flyleaf/flyleaflaw20.ProcFull", spec := "procFull", unfollowed := true, recurses := true, apart := false }
def ProcFullSaid : Prop := procFullRow.holds Try.pinned (OpenSpec.ofChange procFullSpec)

/-- ITS FALSE NEIGHBOUR: 'it returns false'. Refute it at one input. -/
def procFullWrong : ChangeSpec := { name := "procFull", fn := fun _ => fun
  | [d] => { results := [.lit (.bool false)], args := [d] }
  | _ => none }
def ProcFullWrongFalsely : Prop := procFullRow.holds Try.pinned (OpenSpec.ofChange procFullWrong)

/- THE SECOND FORM. 'bulk': how many values and letters a reading holds, each counted each time it is reached (what is shared counts as often as it is met; a slice's spare places count too). A statement '..UptoSaid' is the law's where the arguments, and the package variables that the reading takes, are together of bulk at most 1048576: NARROWER than '..Said'. Prove '..Said' where nothing that the law and all that it calls make is longer than what came in: it says more and counts as full. Else prove '..UptoSaid'. A law counts once. -/
mutual
def uptoBulk {H : Type} : DataW H → Nat
  | .lit (.string bytes) => bytes.length + 1
  | .lit _ => 1
  | .nil => 1
  | .ptr d => uptoBulk d + 1
  | .slice elems spare => uptoBulkAll elems + uptoBulkAll spare + 1
  | .agg parts => uptoBulkAll parts + 1
  | .iface _ d => uptoBulk d + 1
  | .map entries => uptoBulkEntries entries + 1
  | .held _ => 1
def uptoBulkAll {H : Type} : List (DataW H) → Nat
  | [] => 0
  | d :: r => uptoBulk d + uptoBulkAll r
def uptoBulkEntries {H : Type} : List (Lit × DataW H) → Nat
  | [] => 0
  | x :: r => uptoBulkEntry x + uptoBulkEntries r
def uptoBulkEntry {H : Type} : Lit × DataW H → Nat
  | (.string bytes, d) => bytes.length + uptoBulk d + 1
  | (_, d) => uptoBulk d + 1
 end
def uptoSmall : (H : Type) → List (DataW H) → Bool := fun _ ds => decide (uptoBulkAll ds ≤ 1048576)
def OpenSpec.upto (s : _root_.Go.ChangeSpec) : _root_.Go.OpenSpec := { _root_.Go.OpenSpec.ofChange s with cond := some uptoSmall }

/-- 'flyleaflaw20.ProcOrphans', WHERE WHAT IT READS IS OF BULK AT MOST 1048576: true; the input reads as it did. -/
def procOrphansUptoRow : OpenClaim := { program := "ytjhggfpnafhonaa", sum := "6e4e1590e2ca2fbf60690fbe3e2f0f4295a546c19202b4df70e2cc02b401e87f", func := "flyleaf/flyleaflaw20.ProcOrphans", spec := "procOrphans", unfollowed := true, recurses := true, apart := false, narrowed := true }
def ProcOrphansUptoSaid : Prop := procOrphansUptoRow.holds Try.pinned (OpenSpec.upto procOrphansSpec)

/-- 'flyleaflaw20.ProcNil', WHERE WHAT IT READS IS OF BULK AT MOST 1048576: true; the input reads as it did. -/
def procNilUptoRow : OpenClaim := { program := "ytjhggfpnafhonaa", sum := "6e4e1590e2ca2fbf60690fbe3e2f0f4295a546c19202b4df70e2cc02b401e87f", func := "flyleaf/flyleaflaw20.ProcNil", spec := "procNil", unfollowed := true, recurses := true, apart := false, narrowed := true }
def ProcNilUptoSaid : Prop := procNilUptoRow.holds Try.pinned (OpenSpec.upto procNilSpec)

/-- 'flyleaflaw20.ProcOnce', WHERE WHAT IT READS IS OF BULK AT MOST 1048576: true; the input reads as it did. -/
def procOnceUptoRow : OpenClaim := { program := "ytjhggfpnafhonaa", sum := "6e4e1590e2ca2fbf60690fbe3e2f0f4295a546c19202b4df70e2cc02b401e87f", func := "flyleaf/flyleaflaw20.ProcOnce", spec := "procOnce", unfollowed := true, recurses := true, apart := false, narrowed := true }
def ProcOnceUptoSaid : Prop := procOnceUptoRow.holds Try.pinned (OpenSpec.upto procOnceSpec)

/-- 'flyleaflaw20.ProcNumbers', WHERE WHAT IT READS IS OF BULK AT MOST 1048576: true; the input reads as it did. -/
def procNumbersUptoRow : OpenClaim := { program := "ytjhggfpnafhonaa", sum := "6e4e1590e2ca2fbf60690fbe3e2f0f4295a546c19202b4df70e2cc02b401e87f", func := "flyleaf/flyleaflaw20.ProcNumbers", spec := "procNumbers", unfollowed := true, recurses := true, apart := false, narrowed := true }
def ProcNumbersUptoSaid : Prop := procNumbersUptoRow.holds Try.pinned (OpenSpec.upto procNumbersSpec)

/-- 'flyleaflaw20.ProcFull', WHERE WHAT IT READS IS OF BULK AT MOST 1048576: true; the input reads as it did. -/
def procFullUptoRow : OpenClaim := { program := "ytjhggfpnafhonaa", sum := "6e4e1590e2ca2fbf60690fbe3e2f0f4295a546c19202b4df70e2cc02b401e87f", func := "flyleaf/flyleaflaw20.ProcFull", spec := "procFull", unfollowed := true, recurses := true, apart := false, narrowed := true }
def ProcFullUptoSaid : Prop := procFullUptoRow.holds Try.pinned (OpenSpec.upto procFullSpec)

end Rows
end Go.Proofs.Ytjhggfpnafhonaa
