/-
  NARROWER THAN 'FOR EVERY INPUT', by the rows' own cells (each row's printed sentence says how): WordConverts: laid · WordKeeps: laid · WordWhole: laid · WordClips: laid · WordOrders: laid · WordTurns: laid · WordKinds: laid · WordBack: laid.
  DERIVED. THE GIVEN ROWS OF THIS SEAT. 8 by the template 'for every input the law returns true; each argument reads behind the call as it read before'; 0 by the template 'total and deterministic' (their statements: YtlcconooojlhhaaDoorTotals.lean).
  GIVEN WITH THE SEED: the statements are not yours to turn. If you find one false, say at which input.
  Laid BY PROGRAM, IN A SANDBOX (cutbox-rows.mjs): the forced cells as the released guide's own fill.sh prints them over the translation 977db66b63f6d86f… (all of the seat's roots in one cut). By AI agents, Wed Nov 11 2026. No macro, syntax, notation, axiom, sorry.
-/
import Derived.Test.YtlcconooojlhhaaDoorChecked
import GoSem.Claim
import GoSem.ClaimJoined
import GoSem.ClaimMapViews
import Derived.JoinedTies
import Derived.KernelRfl
namespace Go.Proofs.YtlcconooojlhhaaDoor
/- THE CELL 'sum', in the pinned program and in every row, IS THE sha256 OF THE DUMP (.gsa) THAT YtlcconooojlhhaaDoorProg.lean LOADS. Nothing in Lean hashes anything: it is a label: what it is worth is what the hold of that sum in a sandbox is worth. -/
noncomputable def Tryd.pinned : Pinned := { name := "ytlcconooojlhhaadoor", sum := "977db66b63f6d86f50f68dfec96b62f30b2a22b9004af9950453d3a2c5713272", checked := Tryd.checked }
namespace Rows
def none {H : Type} : Left H := { results := [], args := [] }

/- WHAT THE LISTED PACKAGE-LEVEL VARIABLES READ AS WHEN THE CALL BEGINS. Each datum BY PROGRAM (the guide's laid-datum.mjs) off the statement by which the dump's own 'gosem.cut.vars' lays the variable. In a bare row this is a premise. The card (YtlcconooojlhhaaDoorCards.lean) ties it to the program's text. -/
def laid_flyleaf_word_widths {H : Type} : DataW H := .agg [.lit (.int .i64 0), .lit (.int .i64 1), .lit (.int .i64 2), .lit (.int .i64 4), .lit (.int .i64 8), .lit (.int .i64 1), .lit (.int .i64 2), .lit (.int .i64 4), .lit (.int .i64 8), .lit (.int .i64 8)]

/-- 'flyleaflaw02.WordConverts': WHATEVER THE INPUT: true; the input reads as it did. -/
def wordConvertsSpec : ChangeSpec := { name := "wordConverts", fn := fun _ => fun
  | [d1, d2, d3] => { results := [.lit (.bool true)], args := [d1, d2, d3] }
  | _ => none }
def wordConvertsRow : OpenClaim := { program := "ytlcconooojlhhaadoor", sum := "977db66b63f6d86f50f68dfec96b62f30b2a22b9004af9950453d3a2c5713272", func := "flyleaf/flyleaflaw02.WordConverts", spec := "wordConverts", inPlace := ["math.Float64frombits", "math.Float64bits"], named := ["flyleaf/word.widths"], apart := false, laid := [("flyleaf/word.widths", laid_flyleaf_word_widths)] }
def WordConvertsSaid : Prop := wordConvertsRow.holds Tryd.pinned (OpenSpec.ofChange wordConvertsSpec)

/-- ITS FALSE NEIGHBOUR: 'it returns false'. Refute it at one input. -/
def wordConvertsWrong : ChangeSpec := { name := "wordConverts", fn := fun _ => fun
  | [d1, d2, d3] => { results := [.lit (.bool false)], args := [d1, d2, d3] }
  | _ => none }
def WordConvertsWrongFalsely : Prop := wordConvertsRow.holds Tryd.pinned (OpenSpec.ofChange wordConvertsWrong)

/-- 'flyleaflaw02.WordKeeps': WHATEVER THE INPUT: true; the input reads as it did. -/
def wordKeepsSpec : ChangeSpec := { name := "wordKeeps", fn := fun _ => fun
  | [d1, d2, d3] => { results := [.lit (.bool true)], args := [d1, d2, d3] }
  | _ => none }
def wordKeepsRow : OpenClaim := { program := "ytlcconooojlhhaadoor", sum := "977db66b63f6d86f50f68dfec96b62f30b2a22b9004af9950453d3a2c5713272", func := "flyleaf/flyleaflaw02.WordKeeps", spec := "wordKeeps", inPlace := ["math.Float64frombits", "math.Float64bits"], named := ["flyleaf/word.widths"], apart := false, laid := [("flyleaf/word.widths", laid_flyleaf_word_widths)] }
def WordKeepsSaid : Prop := wordKeepsRow.holds Tryd.pinned (OpenSpec.ofChange wordKeepsSpec)

/-- ITS FALSE NEIGHBOUR: 'it returns false'. Refute it at one input. -/
def wordKeepsWrong : ChangeSpec := { name := "wordKeeps", fn := fun _ => fun
  | [d1, d2, d3] => { results := [.lit (.bool false)], args := [d1, d2, d3] }
  | _ => none }
def WordKeepsWrongFalsely : Prop := wordKeepsRow.holds Tryd.pinned (OpenSpec.ofChange wordKeepsWrong)

/-- 'flyleaflaw02.WordWhole': WHATEVER THE INPUT: true; the input reads as it did. -/
def wordWholeSpec : ChangeSpec := { name := "wordWhole", fn := fun _ => fun
  | [d] => { results := [.lit (.bool true)], args := [d] }
  | _ => none }
def wordWholeRow : OpenClaim := { program := "ytlcconooojlhhaadoor", sum := "977db66b63f6d86f50f68dfec96b62f30b2a22b9004af9950453d3a2c5713272", func := "flyleaf/flyleaflaw02.WordWhole", spec := "wordWhole", inPlace := ["math.Float64frombits", "math.Float64bits"], named := ["flyleaf/word.widths"], apart := false, laid := [("flyleaf/word.widths", laid_flyleaf_word_widths)] }
def WordWholeSaid : Prop := wordWholeRow.holds Tryd.pinned (OpenSpec.ofChange wordWholeSpec)

/-- ITS FALSE NEIGHBOUR: 'it returns false'. Refute it at one input. -/
def wordWholeWrong : ChangeSpec := { name := "wordWhole", fn := fun _ => fun
  | [d] => { results := [.lit (.bool false)], args := [d] }
  | _ => none }
def WordWholeWrongFalsely : Prop := wordWholeRow.holds Tryd.pinned (OpenSpec.ofChange wordWholeWrong)

/-- 'flyleaflaw02.WordClips': WHATEVER THE INPUT: true; the input reads as it did. -/
def wordClipsSpec : ChangeSpec := { name := "wordClips", fn := fun _ => fun
  | [d1, d2] => { results := [.lit (.bool true)], args := [d1, d2] }
  | _ => none }
def wordClipsRow : OpenClaim := { program := "ytlcconooojlhhaadoor", sum := "977db66b63f6d86f50f68dfec96b62f30b2a22b9004af9950453d3a2c5713272", func := "flyleaf/flyleaflaw02.WordClips", spec := "wordClips", inPlace := ["math.Float64frombits", "math.Float64bits"], named := ["flyleaf/word.widths"], apart := false, laid := [("flyleaf/word.widths", laid_flyleaf_word_widths)] }
def WordClipsSaid : Prop := wordClipsRow.holds Tryd.pinned (OpenSpec.ofChange wordClipsSpec)

/-- ITS FALSE NEIGHBOUR: 'it returns false'. Refute it at one input. -/
def wordClipsWrong : ChangeSpec := { name := "wordClips", fn := fun _ => fun
  | [d1, d2] => { results := [.lit (.bool false)], args := [d1, d2] }
  | _ => none }
def WordClipsWrongFalsely : Prop := wordClipsRow.holds Tryd.pinned (OpenSpec.ofChange wordClipsWrong)

/-- 'flyleaflaw02.WordOrders': WHATEVER THE INPUT: true; the input reads as it did. -/
def wordOrdersSpec : ChangeSpec := { name := "wordOrders", fn := fun _ => fun
  | [d1, d2, d3] => { results := [.lit (.bool true)], args := [d1, d2, d3] }
  | _ => none }
def wordOrdersRow : OpenClaim := { program := "ytlcconooojlhhaadoor", sum := "977db66b63f6d86f50f68dfec96b62f30b2a22b9004af9950453d3a2c5713272", func := "flyleaf/flyleaflaw02.WordOrders", spec := "wordOrders", inPlace := ["math.Float64frombits", "math.Float64bits"], unfollowed := true, recurses := true, named := ["flyleaf/word.widths"], apart := false, laid := [("flyleaf/word.widths", laid_flyleaf_word_widths)] }
def WordOrdersSaid : Prop := wordOrdersRow.holds Tryd.pinned (OpenSpec.ofChange wordOrdersSpec)

/-- ITS FALSE NEIGHBOUR: 'it returns false'. Refute it at one input. -/
def wordOrdersWrong : ChangeSpec := { name := "wordOrders", fn := fun _ => fun
  | [d1, d2, d3] => { results := [.lit (.bool false)], args := [d1, d2, d3] }
  | _ => none }
def WordOrdersWrongFalsely : Prop := wordOrdersRow.holds Tryd.pinned (OpenSpec.ofChange wordOrdersWrong)

/-- 'flyleaflaw02.WordTurns': WHATEVER THE INPUT: true; the input reads as it did. -/
def wordTurnsSpec : ChangeSpec := { name := "wordTurns", fn := fun _ => fun
  | [d1, d2, d3] => { results := [.lit (.bool true)], args := [d1, d2, d3] }
  | _ => none }
def wordTurnsRow : OpenClaim := { program := "ytlcconooojlhhaadoor", sum := "977db66b63f6d86f50f68dfec96b62f30b2a22b9004af9950453d3a2c5713272", func := "flyleaf/flyleaflaw02.WordTurns", spec := "wordTurns", inPlace := ["math.Float64frombits", "math.Float64bits"], unfollowed := true, recurses := true, named := ["flyleaf/word.widths"], apart := false, laid := [("flyleaf/word.widths", laid_flyleaf_word_widths)] }
def WordTurnsSaid : Prop := wordTurnsRow.holds Tryd.pinned (OpenSpec.ofChange wordTurnsSpec)

/-- ITS FALSE NEIGHBOUR: 'it returns false'. Refute it at one input. -/
def wordTurnsWrong : ChangeSpec := { name := "wordTurns", fn := fun _ => fun
  | [d1, d2, d3] => { results := [.lit (.bool false)], args := [d1, d2, d3] }
  | _ => none }
def WordTurnsWrongFalsely : Prop := wordTurnsRow.holds Tryd.pinned (OpenSpec.ofChange wordTurnsWrong)

/-- 'flyleaflaw02.WordKinds': WHATEVER THE INPUT: true; the input reads as it did. -/
def wordKindsSpec : ChangeSpec := { name := "wordKinds", fn := fun _ => fun
  | [d1, d2, d3] => { results := [.lit (.bool true)], args := [d1, d2, d3] }
  | _ => none }
def wordKindsRow : OpenClaim := { program := "ytlcconooojlhhaadoor", sum := "977db66b63f6d86f50f68dfec96b62f30b2a22b9004af9950453d3a2c5713272", func := "flyleaf/flyleaflaw02.WordKinds", spec := "wordKinds", inPlace := ["math.Float64frombits", "math.Float64bits"], named := ["flyleaf/word.widths"], apart := false, laid := [("flyleaf/word.widths", laid_flyleaf_word_widths)] }
def WordKindsSaid : Prop := wordKindsRow.holds Tryd.pinned (OpenSpec.ofChange wordKindsSpec)

/-- ITS FALSE NEIGHBOUR: 'it returns false'. Refute it at one input. -/
def wordKindsWrong : ChangeSpec := { name := "wordKinds", fn := fun _ => fun
  | [d1, d2, d3] => { results := [.lit (.bool false)], args := [d1, d2, d3] }
  | _ => none }
def WordKindsWrongFalsely : Prop := wordKindsRow.holds Tryd.pinned (OpenSpec.ofChange wordKindsWrong)

/-- 'flyleaflaw02.WordBack': WHATEVER THE INPUT: true; the input reads as it did. -/
def wordBackSpec : ChangeSpec := { name := "wordBack", fn := fun _ => fun
  | [d1, d2, d3] => { results := [.lit (.bool true)], args := [d1, d2, d3] }
  | _ => none }
def wordBackRow : OpenClaim := { program := "ytlcconooojlhhaadoor", sum := "977db66b63f6d86f50f68dfec96b62f30b2a22b9004af9950453d3a2c5713272", func := "flyleaf/flyleaflaw02.WordBack", spec := "wordBack", inPlace := ["math.Float64frombits", "math.Float64bits"], named := ["flyleaf/word.widths"], apart := false, laid := [("flyleaf/word.widths", laid_flyleaf_word_widths)] }
def WordBackSaid : Prop := wordBackRow.holds Tryd.pinned (OpenSpec.ofChange wordBackSpec)

/-- ITS FALSE NEIGHBOUR: 'it returns false'. Refute it at one input. -/
def wordBackWrong : ChangeSpec := { name := "wordBack", fn := fun _ => fun
  | [d1, d2, d3] => { results := [.lit (.bool false)], args := [d1, d2, d3] }
  | _ => none }
def WordBackWrongFalsely : Prop := wordBackRow.holds Tryd.pinned (OpenSpec.ofChange wordBackWrong)

/- THE SECOND FORM. 'bulk': how many values and letters a reading holds, each counted each time it is reached (what is shared counts as often as it is met; a slice's spare places count too). A statement '..UptoSaid' is the law's where the arguments, and the package variables that the reading takes, are together of bulk at most 1048576: NARROWER than '..Said'. Prove '..Said' where nothing that the law and all that it calls make is longer than what came in: it says more and counts as full. Else prove '..UptoSaid'. A law counts once. -/
mutual
def uptoBulk {H : Type} : DataW H → Nat
  | .lit (.string bytes) => bytes.length + 1
  | .lit _ => 1
  | .nil => 1
  | .ptr d => uptoBulk d + 1
  | .slice elems spare => uptoBulkAll elems + uptoBulkAll spare + 1
  | .agg parts => uptoBulkAll parts + 1
  | .iface _ d => uptoBulk d + 1
  | .map entries => uptoBulkEntries entries + 1
  | .held _ => 1
def uptoBulkAll {H : Type} : List (DataW H) → Nat
  | [] => 0
  | d :: r => uptoBulk d + uptoBulkAll r
def uptoBulkEntries {H : Type} : List (Lit × DataW H) → Nat
  | [] => 0
  | x :: r => uptoBulkEntry x + uptoBulkEntries r
def uptoBulkEntry {H : Type} : Lit × DataW H → Nat
  | (.string bytes, d) => bytes.length + uptoBulk d + 1
  | (_, d) => uptoBulk d + 1
 end
def uptoSmall : (H : Type) → List (DataW H) → Bool := fun _ ds => decide (uptoBulkAll ds ≤ 1048576)
def OpenSpec.upto (s : _root_.Go.ChangeSpec) : _root_.Go.OpenSpec := { _root_.Go.OpenSpec.ofChange s with cond := some uptoSmall }

/-- 'flyleaflaw02.WordConverts', WHERE WHAT IT READS IS OF BULK AT MOST 1048576: true; the input reads as it did. -/
def wordConvertsUptoRow : OpenClaim := { program := "ytlcconooojlhhaadoor", sum := "977db66b63f6d86f50f68dfec96b62f30b2a22b9004af9950453d3a2c5713272", func := "flyleaf/flyleaflaw02.WordConverts", spec := "wordConverts", inPlace := ["math.Float64frombits", "math.Float64bits"], named := ["flyleaf/word.widths"], apart := false, laid := [("flyleaf/word.widths", laid_flyleaf_word_widths)], narrowed := true }
def WordConvertsUptoSaid : Prop := wordConvertsUptoRow.holds Tryd.pinned (OpenSpec.upto wordConvertsSpec)

/-- 'flyleaflaw02.WordKeeps', WHERE WHAT IT READS IS OF BULK AT MOST 1048576: true; the input reads as it did. -/
def wordKeepsUptoRow : OpenClaim := { program := "ytlcconooojlhhaadoor", sum := "977db66b63f6d86f50f68dfec96b62f30b2a22b9004af9950453d3a2c5713272", func := "flyleaf/flyleaflaw02.WordKeeps", spec := "wordKeeps", inPlace := ["math.Float64frombits", "math.Float64bits"], named := ["flyleaf/word.widths"], apart := false, laid := [("flyleaf/word.widths", laid_flyleaf_word_widths)], narrowed := true }
def WordKeepsUptoSaid : Prop := wordKeepsUptoRow.holds Tryd.pinned (OpenSpec.upto wordKeepsSpec)

/-- 'flyleaflaw02.WordWhole', WHERE WHAT IT READS IS OF BULK AT MOST 1048576: true; the input reads as it did. -/
def wordWholeUptoRow : OpenClaim := { program := "ytlcconooojlhhaadoor", sum := "977db66b63f6d86f50f68dfec96b62f30b2a22b9004af9950453d3a2c5713272", func := "flyleaf/flyleaflaw02.WordWhole", spec := "wordWhole", inPlace := ["math.Float64frombits", "math.Float64bits"], named := ["flyleaf/word.widths"], apart := false, laid := [("flyleaf/word.widths", laid_flyleaf_word_widths)], narrowed := true }
def WordWholeUptoSaid : Prop := wordWholeUptoRow.holds Tryd.pinned (OpenSpec.upto wordWholeSpec)

/-- 'flyleaflaw02.WordClips', WHERE WHAT IT READS IS OF BULK AT MOST 1048576: true; the input reads as it did. -/
def wordClipsUptoRow : OpenClaim := { program := "ytlcconooojlhhaadoor", sum := "977db66b63f6d86f50f68dfec96b62f30b2a22b9004af9950453d3a2c5713272", func := "flyleaf/flyleaflaw02.WordClips", spec := "wordClips", inPlace := ["math.Float64frombits", "math.Float64bits"], named := ["flyleaf/word.widths"], apart := false, laid := [("flyleaf/word.widths", laid_flyleaf_word_widths)], narrowed := true }
def WordClipsUptoSaid : Prop := wordClipsUptoRow.holds Tryd.pinned (OpenSpec.upto wordClipsSpec)

/-- 'flyleaflaw02.WordOrders', WHERE WHAT IT READS IS OF BULK AT MOST 1048576: true; the input reads as it did. -/
def wordOrdersUptoRow : OpenClaim := { program := "ytlcconooojlhhaadoor", sum := "977db66b63f6d86f50f68dfec96b62f30b2a22b9004af9950453d3a2c5713272", func := "flyleaf/flyleaflaw02.WordOrders", spec := "wordOrders", inPlace := ["math.Float64frombits", "math.Float64bits"], unfollowed := true, recurses := true, named := ["flyleaf/word.widths"], apart := false, laid := [("flyleaf/word.widths", laid_flyleaf_word_widths)], narrowed := true }
def WordOrdersUptoSaid : Prop := wordOrdersUptoRow.holds Tryd.pinned (OpenSpec.upto wordOrdersSpec)

/-- 'flyleaflaw02.WordTurns', WHERE WHAT IT READS IS OF BULK AT MOST 1048576: true; the input reads as it did. -/
def wordTurnsUptoRow : OpenClaim := { program := "ytlcconooojlhhaadoor", sum := "977db66b63f6d86f50f68dfec96b62f30b2a22b9004af9950453d3a2c5713272", func := "flyleaf/flyleaflaw02.WordTurns", spec := "wordTurns", inPlace := ["math.Float64frombits", "math.Float64bits"], unfollowed := true, recurses := true, named := ["flyleaf/word.widths"], apart := false, laid := [("flyleaf/word.widths", laid_flyleaf_word_widths)], narrowed := true }
def WordTurnsUptoSaid : Prop := wordTurnsUptoRow.holds Tryd.pinned (OpenSpec.upto wordTurnsSpec)

/-- 'flyleaflaw02.WordKinds', WHERE WHAT IT READS IS OF BULK AT MOST 1048576: true; the input reads as it did. -/
def wordKindsUptoRow : OpenClaim := { program := "ytlcconooojlhhaadoor", sum := "977db66b63f6d86f50f68dfec96b62f30b2a22b9004af9950453d3a2c5713272", func := "flyleaf/flyleaflaw02.WordKinds", spec := "wordKinds", inPlace := ["math.Float64frombits", "math.Float64bits"], named := ["flyleaf/word.widths"], apart := false, laid := [("flyleaf/word.widths", laid_flyleaf_word_widths)], narrowed := true }
def WordKindsUptoSaid : Prop := wordKindsUptoRow.holds Tryd.pinned (OpenSpec.upto wordKindsSpec)

/-- 'flyleaflaw02.WordBack', WHERE WHAT IT READS IS OF BULK AT MOST 1048576: true; the input reads as it did. -/
def wordBackUptoRow : OpenClaim := { program := "ytlcconooojlhhaadoor", sum := "977db66b63f6d86f50f68dfec96b62f30b2a22b9004af9950453d3a2c5713272", func := "flyleaf/flyleaflaw02.WordBack", spec := "wordBack", inPlace := ["math.Float64frombits", "math.Float64bits"], named := ["flyleaf/word.widths"], apart := false, laid := [("flyleaf/word.widths", laid_flyleaf_word_widths)], narrowed := true }
def WordBackUptoSaid : Prop := wordBackUptoRow.holds Tryd.pinned (OpenSpec.upto wordBackSpec)

end Rows
end Go.Proofs.YtlcconooojlhhaaDoor
