/-
  NARROWER THAN 'FOR EVERY INPUT', by the rows' own cells (each row's printed sentence says how): FramesApart: laid · FramesWords: laid · FramesFree: laid · FramesTaken: laid · FramesCopies: laid · FramesPlays: laid · FramesNil: laid · RadixPacks: laid · RadixFull: laid · RadixNodes: laid · RadixFrom: laid · RadixLast: laid · RadixPlays: laid · RadixNil: laid.
  DERIVED. THE GIVEN ROWS OF THIS SEAT. 14 by the template 'for every input the law returns true; each argument reads behind the call as it read before'; 0 by the template 'total and deterministic' (their statements: YtacpfkimjaihgaaDoorTotals.lean).
  GIVEN WITH THE SEED: the statements are not yours to turn. If you find one false, say at which input.
  Laid BY PROGRAM, IN A SANDBOX (cutbox-rows.mjs): the forced cells as the released guide's own fill.sh prints them over the translation 09045173c7ccc1df… (all of the seat's roots in one cut). By AI agents, Wed Nov 11 2026. No macro, syntax, notation, axiom, sorry.
-/
import Derived.Test.YtacpfkimjaihgaaDoorChecked
import GoSem.Claim
import GoSem.ClaimJoined
import GoSem.ClaimMapViews
import Derived.JoinedTies
import Derived.KernelRfl
namespace Go.Proofs.YtacpfkimjaihgaaDoor
/- THE CELL 'sum', in the pinned program and in every row, IS THE sha256 OF THE DUMP (.gsa) THAT YtacpfkimjaihgaaDoorProg.lean LOADS. Nothing in Lean hashes anything: it is a label: what it is worth is what the hold of that sum in a sandbox is worth. -/
noncomputable def Tryd.pinned : Pinned := { name := "ytacpfkimjaihgaadoor", sum := "09045173c7ccc1df0b3cccacc006660ab1e77cbd12c0e79dc2f21cc9443fea4a", checked := Tryd.checked }
namespace Rows
def none {H : Type} : Left H := { results := [], args := [] }

/- WHAT THE LISTED PACKAGE-LEVEL VARIABLES READ AS WHEN THE CALL BEGINS. Each datum BY PROGRAM (the guide's laid-datum.mjs) off the statement by which the dump's own 'gosem.cut.vars' lays the variable. In a bare row this is a premise. The card (YtacpfkimjaihgaaDoorCards.lean) ties it to the program's text. -/
def laid_flyleaf_word_widths {H : Type} : DataW H := .agg [.lit (.int .i64 0), .lit (.int .i64 1), .lit (.int .i64 2), .lit (.int .i64 4), .lit (.int .i64 8), .lit (.int .i64 1), .lit (.int .i64 2), .lit (.int .i64 4), .lit (.int .i64 8), .lit (.int .i64 8)]

/-- 'flyleaflaw06.FramesApart': WHATEVER THE INPUT: true; the input reads as it did. -/
def framesApartSpec : ChangeSpec := { name := "framesApart", fn := fun _ => fun
  | [d1, d2, d3] => { results := [.lit (.bool true)], args := [d1, d2, d3] }
  | _ => none }
def framesApartRow : OpenClaim := { program := "ytacpfkimjaihgaadoor", sum := "09045173c7ccc1df0b3cccacc006660ab1e77cbd12c0e79dc2f21cc9443fea4a", func := "flyleaf/flyleaflaw06.FramesApart", spec := "framesApart", unfollowed := true, recurses := true, named := ["flyleaf/word.widths"], apart := false, laid := [("flyleaf/word.widths", laid_flyleaf_word_widths)] }
def FramesApartSaid : Prop := framesApartRow.holds Tryd.pinned (OpenSpec.ofChange framesApartSpec)

/-- ITS FALSE NEIGHBOUR: 'it returns false'. Refute it at one input. -/
def framesApartWrong : ChangeSpec := { name := "framesApart", fn := fun _ => fun
  | [d1, d2, d3] => { results := [.lit (.bool false)], args := [d1, d2, d3] }
  | _ => none }
def FramesApartWrongFalsely : Prop := framesApartRow.holds Tryd.pinned (OpenSpec.ofChange framesApartWrong)

/-- 'flyleaflaw06.FramesWords': WHATEVER THE INPUT: true; the input reads as it did. -/
def framesWordsSpec : ChangeSpec := { name := "framesWords", fn := fun _ => fun
  | [d1, d2, d3] => { results := [.lit (.bool true)], args := [d1, d2, d3] }
  | _ => none }
def framesWordsRow : OpenClaim := { program := "ytacpfkimjaihgaadoor", sum := "09045173c7ccc1df0b3cccacc006660ab1e77cbd12c0e79dc2f21cc9443fea4a", func := "flyleaf/flyleaflaw06.FramesWords", spec := "framesWords", unfollowed := true, recurses := true, named := ["flyleaf/word.widths"], apart := false, laid := [("flyleaf/word.widths", laid_flyleaf_word_widths)] }
def FramesWordsSaid : Prop := framesWordsRow.holds Tryd.pinned (OpenSpec.ofChange framesWordsSpec)

/-- ITS FALSE NEIGHBOUR: 'it returns false'. Refute it at one input. -/
def framesWordsWrong : ChangeSpec := { name := "framesWords", fn := fun _ => fun
  | [d1, d2, d3] => { results := [.lit (.bool false)], args := [d1, d2, d3] }
  | _ => none }
def FramesWordsWrongFalsely : Prop := framesWordsRow.holds Tryd.pinned (OpenSpec.ofChange framesWordsWrong)

/-- 'flyleaflaw06.FramesFree': WHATEVER THE INPUT: true; the input reads as it did. -/
def framesFreeSpec : ChangeSpec := { name := "framesFree", fn := fun _ => fun
  | [d] => { results := [.lit (.bool true)], args := [d] }
  | _ => none }
def framesFreeRow : OpenClaim := { program := "ytacpfkimjaihgaadoor", sum := "09045173c7ccc1df0b3cccacc006660ab1e77cbd12c0e79dc2f21cc9443fea4a", func := "flyleaf/flyleaflaw06.FramesFree", spec := "framesFree", unfollowed := true, recurses := true, named := ["flyleaf/word.widths"], apart := false, laid := [("flyleaf/word.widths", laid_flyleaf_word_widths)] }
def FramesFreeSaid : Prop := framesFreeRow.holds Tryd.pinned (OpenSpec.ofChange framesFreeSpec)

/-- ITS FALSE NEIGHBOUR: 'it returns false'. Refute it at one input. -/
def framesFreeWrong : ChangeSpec := { name := "framesFree", fn := fun _ => fun
  | [d] => { results := [.lit (.bool false)], args := [d] }
  | _ => none }
def FramesFreeWrongFalsely : Prop := framesFreeRow.holds Tryd.pinned (OpenSpec.ofChange framesFreeWrong)

/-- 'flyleaflaw06.FramesTaken': WHATEVER THE INPUT: true; the input reads as it did. -/
def framesTakenSpec : ChangeSpec := { name := "framesTaken", fn := fun _ => fun
  | [d] => { results := [.lit (.bool true)], args := [d] }
  | _ => none }
def framesTakenRow : OpenClaim := { program := "ytacpfkimjaihgaadoor", sum := "09045173c7ccc1df0b3cccacc006660ab1e77cbd12c0e79dc2f21cc9443fea4a", func := "flyleaf/flyleaflaw06.FramesTaken", spec := "framesTaken", unfollowed := true, recurses := true, named := ["flyleaf/word.widths"], apart := false, laid := [("flyleaf/word.widths", laid_flyleaf_word_widths)] }
def FramesTakenSaid : Prop := framesTakenRow.holds Tryd.pinned (OpenSpec.ofChange framesTakenSpec)

/-- ITS FALSE NEIGHBOUR: 'it returns false'. Refute it at one input. -/
def framesTakenWrong : ChangeSpec := { name := "framesTaken", fn := fun _ => fun
  | [d] => { results := [.lit (.bool false)], args := [d] }
  | _ => none }
def FramesTakenWrongFalsely : Prop := framesTakenRow.holds Tryd.pinned (OpenSpec.ofChange framesTakenWrong)

/-- 'flyleaflaw06.FramesCopies': WHATEVER THE INPUT: true; the input reads as it did. -/
def framesCopiesSpec : ChangeSpec := { name := "framesCopies", fn := fun _ => fun
  | [d1, d2] => { results := [.lit (.bool true)], args := [d1, d2] }
  | _ => none }
def framesCopiesRow : OpenClaim := { program := "ytacpfkimjaihgaadoor", sum := "09045173c7ccc1df0b3cccacc006660ab1e77cbd12c0e79dc2f21cc9443fea4a", func := "flyleaf/flyleaflaw06.FramesCopies", spec := "framesCopies", unfollowed := true, recurses := true, named := ["flyleaf/word.widths"], apart := false, laid := [("flyleaf/word.widths", laid_flyleaf_word_widths)] }
def FramesCopiesSaid : Prop := framesCopiesRow.holds Tryd.pinned (OpenSpec.ofChange framesCopiesSpec)

/-- ITS FALSE NEIGHBOUR: 'it returns false'. Refute it at one input. -/
def framesCopiesWrong : ChangeSpec := { name := "framesCopies", fn := fun _ => fun
  | [d1, d2] => { results := [.lit (.bool false)], args := [d1, d2] }
  | _ => none }
def FramesCopiesWrongFalsely : Prop := framesCopiesRow.holds Tryd.pinned (OpenSpec.ofChange framesCopiesWrong)

/-- 'flyleaflaw06.FramesPlays': WHATEVER THE INPUT: true; the input reads as it did. -/
def framesPlaysSpec : ChangeSpec := { name := "framesPlays", fn := fun _ => fun
  | [d1, d2] => { results := [.lit (.bool true)], args := [d1, d2] }
  | _ => none }
def framesPlaysRow : OpenClaim := { program := "ytacpfkimjaihgaadoor", sum := "09045173c7ccc1df0b3cccacc006660ab1e77cbd12c0e79dc2f21cc9443fea4a", func := "flyleaf/flyleaflaw06.FramesPlays", spec := "framesPlays", unfollowed := true, recurses := true, named := ["flyleaf/word.widths"], apart := false, laid := [("flyleaf/word.widths", laid_flyleaf_word_widths)] }
def FramesPlaysSaid : Prop := framesPlaysRow.holds Tryd.pinned (OpenSpec.ofChange framesPlaysSpec)

/-- ITS FALSE NEIGHBOUR: 'it returns false'. Refute it at one input. -/
def framesPlaysWrong : ChangeSpec := { name := "framesPlays", fn := fun _ => fun
  | [d1, d2] => { results := [.lit (.bool false)], args := [d1, d2] }
  | _ => none }
def FramesPlaysWrongFalsely : Prop := framesPlaysRow.holds Tryd.pinned (OpenSpec.ofChange framesPlaysWrong)

/-- 'flyleaflaw06.FramesNil': WHATEVER THE INPUT: true; the input reads as it did. -/
def framesNilSpec : ChangeSpec := { name := "framesNil", fn := fun _ => fun
  | [d] => { results := [.lit (.bool true)], args := [d] }
  | _ => none }
def framesNilRow : OpenClaim := { program := "ytacpfkimjaihgaadoor", sum := "09045173c7ccc1df0b3cccacc006660ab1e77cbd12c0e79dc2f21cc9443fea4a", func := "flyleaf/flyleaflaw06.FramesNil", spec := "framesNil", unfollowed := true, recurses := true, named := ["flyleaf/word.widths"], apart := false, laid := [("flyleaf/word.widths", laid_flyleaf_word_widths)] }
def FramesNilSaid : Prop := framesNilRow.holds Tryd.pinned (OpenSpec.ofChange framesNilSpec)

/-- ITS FALSE NEIGHBOUR: 'it returns false'. Refute it at one input. -/
def framesNilWrong : ChangeSpec := { name := "framesNil", fn := fun _ => fun
  | [d] => { results := [.lit (.bool false)], args := [d] }
  | _ => none }
def FramesNilWrongFalsely : Prop := framesNilRow.holds Tryd.pinned (OpenSpec.ofChange framesNilWrong)

/-- 'flyleaflaw07.RadixPacks': WHATEVER THE INPUT: true; the input reads as it did. -/
def radixPacksSpec : ChangeSpec := { name := "radixPacks", fn := fun _ => fun
  | [d1, d2] => { results := [.lit (.bool true)], args := [d1, d2] }
  | _ => none }
def radixPacksRow : OpenClaim := { program := "ytacpfkimjaihgaadoor", sum := "09045173c7ccc1df0b3cccacc006660ab1e77cbd12c0e79dc2f21cc9443fea4a", func := "flyleaf/flyleaflaw07.RadixPacks", spec := "radixPacks", unfollowed := true, recurses := true, named := ["flyleaf/word.widths"], apart := false, laid := [("flyleaf/word.widths", laid_flyleaf_word_widths)] }
def RadixPacksSaid : Prop := radixPacksRow.holds Tryd.pinned (OpenSpec.ofChange radixPacksSpec)

/-- ITS FALSE NEIGHBOUR: 'it returns false'. Refute it at one input. -/
def radixPacksWrong : ChangeSpec := { name := "radixPacks", fn := fun _ => fun
  | [d1, d2] => { results := [.lit (.bool false)], args := [d1, d2] }
  | _ => none }
def RadixPacksWrongFalsely : Prop := radixPacksRow.holds Tryd.pinned (OpenSpec.ofChange radixPacksWrong)

/-- 'flyleaflaw07.RadixFull': WHATEVER THE INPUT: true; the input reads as it did. -/
def radixFullSpec : ChangeSpec := { name := "radixFull", fn := fun _ => fun
  | [d1, d2] => { results := [.lit (.bool true)], args := [d1, d2] }
  | _ => none }
def radixFullRow : OpenClaim := { program := "ytacpfkimjaihgaadoor", sum := "09045173c7ccc1df0b3cccacc006660ab1e77cbd12c0e79dc2f21cc9443fea4a", func := "flyleaf/flyleaflaw07.RadixFull", spec := "radixFull", unfollowed := true, recurses := true, named := ["flyleaf/word.widths"], apart := false, laid := [("flyleaf/word.widths", laid_flyleaf_word_widths)] }
def RadixFullSaid : Prop := radixFullRow.holds Tryd.pinned (OpenSpec.ofChange radixFullSpec)

/-- ITS FALSE NEIGHBOUR: 'it returns false'. Refute it at one input. -/
def radixFullWrong : ChangeSpec := { name := "radixFull", fn := fun _ => fun
  | [d1, d2] => { results := [.lit (.bool false)], args := [d1, d2] }
  | _ => none }
def RadixFullWrongFalsely : Prop := radixFullRow.holds Tryd.pinned (OpenSpec.ofChange radixFullWrong)

/-- 'flyleaflaw07.RadixNodes': WHATEVER THE INPUT: true; the input reads as it did. -/
def radixNodesSpec : ChangeSpec := { name := "radixNodes", fn := fun _ => fun
  | [d1, d2] => { results := [.lit (.bool true)], args := [d1, d2] }
  | _ => none }
def radixNodesRow : OpenClaim := { program := "ytacpfkimjaihgaadoor", sum := "09045173c7ccc1df0b3cccacc006660ab1e77cbd12c0e79dc2f21cc9443fea4a", func := "flyleaf/flyleaflaw07.RadixNodes", spec := "radixNodes", unfollowed := true, recurses := true, named := ["flyleaf/word.widths"], apart := false, laid := [("flyleaf/word.widths", laid_flyleaf_word_widths)] }
def RadixNodesSaid : Prop := radixNodesRow.holds Tryd.pinned (OpenSpec.ofChange radixNodesSpec)

/-- ITS FALSE NEIGHBOUR: 'it returns false'. Refute it at one input. -/
def radixNodesWrong : ChangeSpec := { name := "radixNodes", fn := fun _ => fun
  | [d1, d2] => { results := [.lit (.bool false)], args := [d1, d2] }
  | _ => none }
def RadixNodesWrongFalsely : Prop := radixNodesRow.holds Tryd.pinned (OpenSpec.ofChange radixNodesWrong)

/-- 'flyleaflaw07.RadixFrom': WHATEVER THE INPUT: true; the input reads as it did. -/
def radixFromSpec : ChangeSpec := { name := "radixFrom", fn := fun _ => fun
  | [d1, d2] => { results := [.lit (.bool true)], args := [d1, d2] }
  | _ => none }
def radixFromRow : OpenClaim := { program := "ytacpfkimjaihgaadoor", sum := "09045173c7ccc1df0b3cccacc006660ab1e77cbd12c0e79dc2f21cc9443fea4a", func := "flyleaf/flyleaflaw07.RadixFrom", spec := "radixFrom", unfollowed := true, recurses := true, named := ["flyleaf/word.widths"], apart := false, laid := [("flyleaf/word.widths", laid_flyleaf_word_widths)] }
def RadixFromSaid : Prop := radixFromRow.holds Tryd.pinned (OpenSpec.ofChange radixFromSpec)

/-- ITS FALSE NEIGHBOUR: 'it returns false'. Refute it at one input. -/
def radixFromWrong : ChangeSpec := { name := "radixFrom", fn := fun _ => fun
  | [d1, d2] => { results := [.lit (.bool false)], args := [d1, d2] }
  | _ => none }
def RadixFromWrongFalsely : Prop := radixFromRow.holds Tryd.pinned (OpenSpec.ofChange radixFromWrong)

/-- 'flyleaflaw07.RadixLast': WHATEVER THE INPUT: true; the input reads as it did. -/
def radixLastSpec : ChangeSpec := { name := "radixLast", fn := fun _ => fun
  | [d1, d2] => { results := [.lit (.bool true)], args := [d1, d2] }
  | _ => none }
def radixLastRow : OpenClaim := { program := "ytacpfkimjaihgaadoor", sum := "09045173c7ccc1df0b3cccacc006660ab1e77cbd12c0e79dc2f21cc9443fea4a", func := "flyleaf/flyleaflaw07.RadixLast", spec := "radixLast", unfollowed := true, recurses := true, named := ["flyleaf/word.widths"], apart := false, laid := [("flyleaf/word.widths", laid_flyleaf_word_widths)] }
def RadixLastSaid : Prop := radixLastRow.holds Tryd.pinned (OpenSpec.ofChange radixLastSpec)

/-- ITS FALSE NEIGHBOUR: 'it returns false'. Refute it at one input. -/
def radixLastWrong : ChangeSpec := { name := "radixLast", fn := fun _ => fun
  | [d1, d2] => { results := [.lit (.bool false)], args := [d1, d2] }
  | _ => none }
def RadixLastWrongFalsely : Prop := radixLastRow.holds Tryd.pinned (OpenSpec.ofChange radixLastWrong)

/-- 'flyleaflaw07.RadixPlays': WHATEVER THE INPUT: true; the input reads as it did. -/
def radixPlaysSpec : ChangeSpec := { name := "radixPlays", fn := fun _ => fun
  | [d1, d2] => { results := [.lit (.bool true)], args := [d1, d2] }
  | _ => none }
def radixPlaysRow : OpenClaim := { program := "ytacpfkimjaihgaadoor", sum := "09045173c7ccc1df0b3cccacc006660ab1e77cbd12c0e79dc2f21cc9443fea4a", func := "flyleaf/flyleaflaw07.RadixPlays", spec := "radixPlays", unfollowed := true, recurses := true, named := ["flyleaf/word.widths"], apart := false, laid := [("flyleaf/word.widths", laid_flyleaf_word_widths)] }
def RadixPlaysSaid : Prop := radixPlaysRow.holds Tryd.pinned (OpenSpec.ofChange radixPlaysSpec)

/-- ITS FALSE NEIGHBOUR: 'it returns false'. Refute it at one input. -/
def radixPlaysWrong : ChangeSpec := { name := "radixPlays", fn := fun _ => fun
  | [d1, d2] => { results := [.lit (.bool false)], args := [d1, d2] }
  | _ => none }
def RadixPlaysWrongFalsely : Prop := radixPlaysRow.holds Tryd.pinned (OpenSpec.ofChange radixPlaysWrong)

/-- 'flyleaflaw07.RadixNil': WHATEVER THE INPUT: true; the input reads as it did. -/
def radixNilSpec : ChangeSpec := { name := "radixNil", fn := fun _ => fun
  | [d] => { results := [.lit (.bool true)], args := [d] }
  | _ => none }
def radixNilRow : OpenClaim := { program := "ytacpfkimjaihgaadoor", sum := "09045173c7ccc1df0b3cccacc006660ab1e77cbd12c0e79dc2f21cc9443fea4a", func := "flyleaf/flyleaflaw07.RadixNil", spec := "radixNil", unfollowed := true, recurses := true, named := ["flyleaf/word.widths"], apart := false, laid := [("flyleaf/word.widths", laid_flyleaf_word_widths)] }
def RadixNilSaid : Prop := radixNilRow.holds Tryd.pinned (OpenSpec.ofChange radixNilSpec)

/-- ITS FALSE NEIGHBOUR: 'it returns false'. Refute it at one input. -/
def radixNilWrong : ChangeSpec := { name := "radixNil", fn := fun _ => fun
  | [d] => { results := [.lit (.bool false)], args := [d] }
  | _ => none }
def RadixNilWrongFalsely : Prop := radixNilRow.holds Tryd.pinned (OpenSpec.ofChange radixNilWrong)

/- THE SECOND FORM. 'bulk': how many values and letters a reading holds, each counted each time it is reached (what is shared counts as often as it is met; a slice's spare places count too). A statement '..UptoSaid' is the law's where the arguments, and the package variables that the reading takes, are together of bulk at most 1048576: NARROWER than '..Said'. Prove '..Said' where nothing that the law and all that it calls make is longer than what came in: it says more and counts as full. Else prove '..UptoSaid'. A law counts once. -/
mutual
def uptoBulk {H : Type} : DataW H → Nat
  | .lit (.string bytes) => bytes.length + 1
  | .lit _ => 1
  | .nil => 1
  | .ptr d => uptoBulk d + 1
  | .slice elems spare => uptoBulkAll elems + uptoBulkAll spare + 1
  | .agg parts => uptoBulkAll parts + 1
  | .iface _ d => uptoBulk d + 1
  | .map entries => uptoBulkEntries entries + 1
  | .held _ => 1
def uptoBulkAll {H : Type} : List (DataW H) → Nat
  | [] => 0
  | d :: r => uptoBulk d + uptoBulkAll r
def uptoBulkEntries {H : Type} : List (Lit × DataW H) → Nat
  | [] => 0
  | x :: r => uptoBulkEntry x + uptoBulkEntries r
def uptoBulkEntry {H : Type} : Lit × DataW H → Nat
  | (.string bytes, d) => bytes.length + uptoBulk d + 1
  | (_, d) => uptoBulk d + 1
 end
def uptoSmall : (H : Type) → List (DataW H) → Bool := fun _ ds => decide (uptoBulkAll ds ≤ 1048576)
def OpenSpec.upto (s : _root_.Go.ChangeSpec) : _root_.Go.OpenSpec := { _root_.Go.OpenSpec.ofChange s with cond := some uptoSmall }

/-- 'flyleaflaw06.FramesApart', WHERE WHAT IT READS IS OF BULK AT MOST 1048576: true; the input reads as it did. -/
def framesApartUptoRow : OpenClaim := { program := "ytacpfkimjaihgaadoor", sum := "09045173c7ccc1df0b3cccacc006660ab1e77cbd12c0e79dc2f21cc9443fea4a", func := "flyleaf/flyleaflaw06.FramesApart", spec := "framesApart", unfollowed := true, recurses := true, named := ["flyleaf/word.widths"], apart := false, laid := [("flyleaf/word.widths", laid_flyleaf_word_widths)], narrowed := true }
def FramesApartUptoSaid : Prop := framesApartUptoRow.holds Tryd.pinned (OpenSpec.upto framesApartSpec)

/-- 'flyleaflaw06.FramesWords', WHERE WHAT IT READS IS OF BULK AT MOST 1048576: true; the input reads as it did. -/
def framesWordsUptoRow : OpenClaim := { program := "ytacpfkimjaihgaadoor", sum := "09045173c7ccc1df0b3cccacc006660ab1e77cbd12c0e79dc2f21cc9443fea4a", func := "flyleaf/flyleaflaw06.FramesWords", spec := "framesWords", unfollowed := true, recurses := true, named := ["flyleaf/word.widths"], apart := false, laid := [("flyleaf/word.widths", laid_flyleaf_word_widths)], narrowed := true }
def FramesWordsUptoSaid : Prop := framesWordsUptoRow.holds Tryd.pinned (OpenSpec.upto framesWordsSpec)

/-- 'flyleaflaw06.FramesFree', WHERE WHAT IT READS IS OF BULK AT MOST 1048576: true; the input reads as it did. -/
def framesFreeUptoRow : OpenClaim := { program := "ytacpfkimjaihgaadoor", sum := "09045173c7ccc1df0b3cccacc006660ab1e77cbd12c0e79dc2f21cc9443fea4a", func := "flyleaf/flyleaflaw06.FramesFree", spec := "framesFree", unfollowed := true, recurses := true, named := ["flyleaf/word.widths"], apart := false, laid := [("flyleaf/word.widths", laid_flyleaf_word_widths)], narrowed := true }
def FramesFreeUptoSaid : Prop := framesFreeUptoRow.holds Tryd.pinned (OpenSpec.upto framesFreeSpec)

/-- 'flyleaflaw06.FramesTaken', WHERE WHAT IT READS IS OF BULK AT MOST 1048576: true; the input reads as it did. -/
def framesTakenUptoRow : OpenClaim := { program := "ytacpfkimjaihgaadoor", sum := "09045173c7ccc1df0b3cccacc006660ab1e77cbd12c0e79dc2f21cc9443fea4a", func := "flyleaf/flyleaflaw06.FramesTaken", spec := "framesTaken", unfollowed := true, recurses := true, named := ["flyleaf/word.widths"], apart := false, laid := [("flyleaf/word.widths", laid_flyleaf_word_widths)], narrowed := true }
def FramesTakenUptoSaid : Prop := framesTakenUptoRow.holds Tryd.pinned (OpenSpec.upto framesTakenSpec)

/-- 'flyleaflaw06.FramesCopies', WHERE WHAT IT READS IS OF BULK AT MOST 1048576: true; the input reads as it did. -/
def framesCopiesUptoRow : OpenClaim := { program := "ytacpfkimjaihgaadoor", sum := "09045173c7ccc1df0b3cccacc006660ab1e77cbd12c0e79dc2f21cc9443fea4a", func := "flyleaf/flyleaflaw06.FramesCopies", spec := "framesCopies", unfollowed := true, recurses := true, named := ["flyleaf/word.widths"], apart := false, laid := [("flyleaf/word.widths", laid_flyleaf_word_widths)], narrowed := true }
def FramesCopiesUptoSaid : Prop := framesCopiesUptoRow.holds Tryd.pinned (OpenSpec.upto framesCopiesSpec)

/-- 'flyleaflaw06.FramesPlays', WHERE WHAT IT READS IS OF BULK AT MOST 1048576: true; the input reads as it did. -/
def framesPlaysUptoRow : OpenClaim := { program := "ytacpfkimjaihgaadoor", sum := "09045173c7ccc1df0b3cccacc006660ab1e77cbd12c0e79dc2f21cc9443fea4a", func := "flyleaf/flyleaflaw06.FramesPlays", spec := "framesPlays", unfollowed := true, recurses := true, named := ["flyleaf/word.widths"], apart := false, laid := [("flyleaf/word.widths", laid_flyleaf_word_widths)], narrowed := true }
def FramesPlaysUptoSaid : Prop := framesPlaysUptoRow.holds Tryd.pinned (OpenSpec.upto framesPlaysSpec)

/-- 'flyleaflaw06.FramesNil', WHERE WHAT IT READS IS OF BULK AT MOST 1048576: true; the input reads as it did. -/
def framesNilUptoRow : OpenClaim := { program := "ytacpfkimjaihgaadoor", sum := "09045173c7ccc1df0b3cccacc006660ab1e77cbd12c0e79dc2f21cc9443fea4a", func := "flyleaf/flyleaflaw06.FramesNil", spec := "framesNil", unfollowed := true, recurses := true, named := ["flyleaf/word.widths"], apart := false, laid := [("flyleaf/word.widths", laid_flyleaf_word_widths)], narrowed := true }
def FramesNilUptoSaid : Prop := framesNilUptoRow.holds Tryd.pinned (OpenSpec.upto framesNilSpec)

/-- 'flyleaflaw07.RadixPacks', WHERE WHAT IT READS IS OF BULK AT MOST 1048576: true; the input reads as it did. -/
def radixPacksUptoRow : OpenClaim := { program := "ytacpfkimjaihgaadoor", sum := "09045173c7ccc1df0b3cccacc006660ab1e77cbd12c0e79dc2f21cc9443fea4a", func := "flyleaf/flyleaflaw07.RadixPacks", spec := "radixPacks", unfollowed := true, recurses := true, named := ["flyleaf/word.widths"], apart := false, laid := [("flyleaf/word.widths", laid_flyleaf_word_widths)], narrowed := true }
def RadixPacksUptoSaid : Prop := radixPacksUptoRow.holds Tryd.pinned (OpenSpec.upto radixPacksSpec)

/-- 'flyleaflaw07.RadixFull', WHERE WHAT IT READS IS OF BULK AT MOST 1048576: true; the input reads as it did. -/
def radixFullUptoRow : OpenClaim := { program := "ytacpfkimjaihgaadoor", sum := "09045173c7ccc1df0b3cccacc006660ab1e77cbd12c0e79dc2f21cc9443fea4a", func := "flyleaf/flyleaflaw07.RadixFull", spec := "radixFull", unfollowed := true, recurses := true, named := ["flyleaf/word.widths"], apart := false, laid := [("flyleaf/word.widths", laid_flyleaf_word_widths)], narrowed := true }
def RadixFullUptoSaid : Prop := radixFullUptoRow.holds Tryd.pinned (OpenSpec.upto radixFullSpec)

/-- 'flyleaflaw07.RadixNodes', WHERE WHAT IT READS IS OF BULK AT MOST 1048576: true; the input reads as it did. -/
def radixNodesUptoRow : OpenClaim := { program := "ytacpfkimjaihgaadoor", sum := "09045173c7ccc1df0b3cccacc006660ab1e77cbd12c0e79dc2f21cc9443fea4a", func := "flyleaf/flyleaflaw07.RadixNodes", spec := "radixNodes", unfollowed := true, recurses := true, named := ["flyleaf/word.widths"], apart := false, laid := [("flyleaf/word.widths", laid_flyleaf_word_widths)], narrowed := true }
def RadixNodesUptoSaid : Prop := radixNodesUptoRow.holds Tryd.pinned (OpenSpec.upto radixNodesSpec)

/-- 'flyleaflaw07.RadixFrom', WHERE WHAT IT READS IS OF BULK AT MOST 1048576: true; the input reads as it did. -/
def radixFromUptoRow : OpenClaim := { program := "ytacpfkimjaihgaadoor", sum := "09045173c7ccc1df0b3cccacc006660ab1e77cbd12c0e79dc2f21cc9443fea4a", func := "flyleaf/flyleaflaw07.RadixFrom", spec := "radixFrom", unfollowed := true, recurses := true, named := ["flyleaf/word.widths"], apart := false, laid := [("flyleaf/word.widths", laid_flyleaf_word_widths)], narrowed := true }
def RadixFromUptoSaid : Prop := radixFromUptoRow.holds Tryd.pinned (OpenSpec.upto radixFromSpec)

/-- 'flyleaflaw07.RadixLast', WHERE WHAT IT READS IS OF BULK AT MOST 1048576: true; the input reads as it did. -/
def radixLastUptoRow : OpenClaim := { program := "ytacpfkimjaihgaadoor", sum := "09045173c7ccc1df0b3cccacc006660ab1e77cbd12c0e79dc2f21cc9443fea4a", func := "flyleaf/flyleaflaw07.RadixLast", spec := "radixLast", unfollowed := true, recurses := true, named := ["flyleaf/word.widths"], apart := false, laid := [("flyleaf/word.widths", laid_flyleaf_word_widths)], narrowed := true }
def RadixLastUptoSaid : Prop := radixLastUptoRow.holds Tryd.pinned (OpenSpec.upto radixLastSpec)

/-- 'flyleaflaw07.RadixPlays', WHERE WHAT IT READS IS OF BULK AT MOST 1048576: true; the input reads as it did. -/
def radixPlaysUptoRow : OpenClaim := { program := "ytacpfkimjaihgaadoor", sum := "09045173c7ccc1df0b3cccacc006660ab1e77cbd12c0e79dc2f21cc9443fea4a", func := "flyleaf/flyleaflaw07.RadixPlays", spec := "radixPlays", unfollowed := true, recurses := true, named := ["flyleaf/word.widths"], apart := false, laid := [("flyleaf/word.widths", laid_flyleaf_word_widths)], narrowed := true }
def RadixPlaysUptoSaid : Prop := radixPlaysUptoRow.holds Tryd.pinned (OpenSpec.upto radixPlaysSpec)

/-- 'flyleaflaw07.RadixNil', WHERE WHAT IT READS IS OF BULK AT MOST 1048576: true; the input reads as it did. -/
def radixNilUptoRow : OpenClaim := { program := "ytacpfkimjaihgaadoor", sum := "09045173c7ccc1df0b3cccacc006660ab1e77cbd12c0e79dc2f21cc9443fea4a", func := "flyleaf/flyleaflaw07.RadixNil", spec := "radixNil", unfollowed := true, recurses := true, named := ["flyleaf/word.widths"], apart := false, laid := [("flyleaf/word.widths", laid_flyleaf_word_widths)], narrowed := true }
def RadixNilUptoSaid : Prop := radixNilUptoRow.holds Tryd.pinned (OpenSpec.upto radixNilSpec)

end Rows
end Go.Proofs.YtacpfkimjaihgaaDoor
