/-
  DERIVED. GIVEN WITH THE SEED: THE CARDS: each row of YtlcconooojlhhaaDoorRows.lean that lists a variable, with what it lists TIED to the program's text (the seventh form; the later family's looks); each row that meets fmt, with fmt's text TOLD by the authors' own Lean function (tested against real Go, not proved from fmt's source: count such statements apart). THE CARD IS WHAT COUNTS. Prove the row's statement (the work); the ties are given (YtlcconooojlhhaaDoorTie.lean); close each card by the builder's one call (the guide's Derived/Test/ToyasCard.lean, 'card_holds'). Laid BY PROGRAM, IN A SANDBOX (cutbox-door.mjs). By AI agents, Wed Nov 11 2026. No macro, syntax, notation, axiom, sorry.
-/
import Derived.Test.YtlcconooojlhhaaDoorRows
import GoSem.ClaimSeven
namespace Go.Proofs.YtlcconooojlhhaaDoor
namespace Rows

/-- THE TIED CARD OF 'flyleaflaw02.WordConverts'. -/
def wordConvertsCard : Claim7 := { stood := { row := wordConvertsRow, standIns := [], harness := (true, "dfaa01abdf7ed5e15640d88c5187a49e334296068d2338f2ecaecb7df4e7d27a"), looks := false }, kinds := [], alts := [], laidByText := true, laidKinds := [.data], laidTests := true, laidLooks := .later }
def WordConvertsCardSaid : Prop := Claim7.holds Tryd.pinned (.plain (OpenSpec.ofChange wordConvertsSpec)) wordConvertsCard

/-- THE TIED CARD OF 'flyleaflaw02.WordKeeps'. -/
def wordKeepsCard : Claim7 := { stood := { row := wordKeepsRow, standIns := [], harness := (true, "dfaa01abdf7ed5e15640d88c5187a49e334296068d2338f2ecaecb7df4e7d27a"), looks := false }, kinds := [], alts := [], laidByText := true, laidKinds := [.data], laidTests := true, laidLooks := .later }
def WordKeepsCardSaid : Prop := Claim7.holds Tryd.pinned (.plain (OpenSpec.ofChange wordKeepsSpec)) wordKeepsCard

/-- THE TIED CARD OF 'flyleaflaw02.WordWhole'. -/
def wordWholeCard : Claim7 := { stood := { row := wordWholeRow, standIns := [], harness := (true, "dfaa01abdf7ed5e15640d88c5187a49e334296068d2338f2ecaecb7df4e7d27a"), looks := false }, kinds := [], alts := [], laidByText := true, laidKinds := [.data], laidTests := true, laidLooks := .later }
def WordWholeCardSaid : Prop := Claim7.holds Tryd.pinned (.plain (OpenSpec.ofChange wordWholeSpec)) wordWholeCard

/-- THE TIED CARD OF 'flyleaflaw02.WordClips'. -/
def wordClipsCard : Claim7 := { stood := { row := wordClipsRow, standIns := [], harness := (true, "dfaa01abdf7ed5e15640d88c5187a49e334296068d2338f2ecaecb7df4e7d27a"), looks := false }, kinds := [], alts := [], laidByText := true, laidKinds := [.data], laidTests := true, laidLooks := .later }
def WordClipsCardSaid : Prop := Claim7.holds Tryd.pinned (.plain (OpenSpec.ofChange wordClipsSpec)) wordClipsCard

/-- THE TIED CARD OF 'flyleaflaw02.WordOrders'. -/
def wordOrdersCard : Claim7 := { stood := { row := wordOrdersRow, standIns := [], harness := (true, "dfaa01abdf7ed5e15640d88c5187a49e334296068d2338f2ecaecb7df4e7d27a"), looks := false }, kinds := [], alts := [], laidByText := true, laidKinds := [.data], laidTests := true, laidLooks := .later }
def WordOrdersCardSaid : Prop := Claim7.holds Tryd.pinned (.plain (OpenSpec.ofChange wordOrdersSpec)) wordOrdersCard

/-- THE TIED CARD OF 'flyleaflaw02.WordTurns'. -/
def wordTurnsCard : Claim7 := { stood := { row := wordTurnsRow, standIns := [], harness := (true, "dfaa01abdf7ed5e15640d88c5187a49e334296068d2338f2ecaecb7df4e7d27a"), looks := false }, kinds := [], alts := [], laidByText := true, laidKinds := [.data], laidTests := true, laidLooks := .later }
def WordTurnsCardSaid : Prop := Claim7.holds Tryd.pinned (.plain (OpenSpec.ofChange wordTurnsSpec)) wordTurnsCard

/-- THE TIED CARD OF 'flyleaflaw02.WordKinds'. -/
def wordKindsCard : Claim7 := { stood := { row := wordKindsRow, standIns := [], harness := (true, "dfaa01abdf7ed5e15640d88c5187a49e334296068d2338f2ecaecb7df4e7d27a"), looks := false }, kinds := [], alts := [], laidByText := true, laidKinds := [.data], laidTests := true, laidLooks := .later }
def WordKindsCardSaid : Prop := Claim7.holds Tryd.pinned (.plain (OpenSpec.ofChange wordKindsSpec)) wordKindsCard

/-- THE TIED CARD OF 'flyleaflaw02.WordBack'. -/
def wordBackCard : Claim7 := { stood := { row := wordBackRow, standIns := [], harness := (true, "dfaa01abdf7ed5e15640d88c5187a49e334296068d2338f2ecaecb7df4e7d27a"), looks := false }, kinds := [], alts := [], laidByText := true, laidKinds := [.data], laidTests := true, laidLooks := .later }
def WordBackCardSaid : Prop := Claim7.holds Tryd.pinned (.plain (OpenSpec.ofChange wordBackSpec)) wordBackCard

/-- THE SECOND FORM's CARD OF 'flyleaflaw02.WordConverts'. -/
def wordConvertsUptoCard : Claim7 := { stood := { row := wordConvertsUptoRow, standIns := [], harness := (true, "dfaa01abdf7ed5e15640d88c5187a49e334296068d2338f2ecaecb7df4e7d27a"), looks := false }, kinds := [], alts := [], laidByText := true, laidKinds := [.data], laidTests := true, laidLooks := .later }
def WordConvertsUptoCardSaid : Prop := Claim7.holds Tryd.pinned (.plain (OpenSpec.upto wordConvertsSpec)) wordConvertsUptoCard

/-- THE SECOND FORM's CARD OF 'flyleaflaw02.WordKeeps'. -/
def wordKeepsUptoCard : Claim7 := { stood := { row := wordKeepsUptoRow, standIns := [], harness := (true, "dfaa01abdf7ed5e15640d88c5187a49e334296068d2338f2ecaecb7df4e7d27a"), looks := false }, kinds := [], alts := [], laidByText := true, laidKinds := [.data], laidTests := true, laidLooks := .later }
def WordKeepsUptoCardSaid : Prop := Claim7.holds Tryd.pinned (.plain (OpenSpec.upto wordKeepsSpec)) wordKeepsUptoCard

/-- THE SECOND FORM's CARD OF 'flyleaflaw02.WordWhole'. -/
def wordWholeUptoCard : Claim7 := { stood := { row := wordWholeUptoRow, standIns := [], harness := (true, "dfaa01abdf7ed5e15640d88c5187a49e334296068d2338f2ecaecb7df4e7d27a"), looks := false }, kinds := [], alts := [], laidByText := true, laidKinds := [.data], laidTests := true, laidLooks := .later }
def WordWholeUptoCardSaid : Prop := Claim7.holds Tryd.pinned (.plain (OpenSpec.upto wordWholeSpec)) wordWholeUptoCard

/-- THE SECOND FORM's CARD OF 'flyleaflaw02.WordClips'. -/
def wordClipsUptoCard : Claim7 := { stood := { row := wordClipsUptoRow, standIns := [], harness := (true, "dfaa01abdf7ed5e15640d88c5187a49e334296068d2338f2ecaecb7df4e7d27a"), looks := false }, kinds := [], alts := [], laidByText := true, laidKinds := [.data], laidTests := true, laidLooks := .later }
def WordClipsUptoCardSaid : Prop := Claim7.holds Tryd.pinned (.plain (OpenSpec.upto wordClipsSpec)) wordClipsUptoCard

/-- THE SECOND FORM's CARD OF 'flyleaflaw02.WordOrders'. -/
def wordOrdersUptoCard : Claim7 := { stood := { row := wordOrdersUptoRow, standIns := [], harness := (true, "dfaa01abdf7ed5e15640d88c5187a49e334296068d2338f2ecaecb7df4e7d27a"), looks := false }, kinds := [], alts := [], laidByText := true, laidKinds := [.data], laidTests := true, laidLooks := .later }
def WordOrdersUptoCardSaid : Prop := Claim7.holds Tryd.pinned (.plain (OpenSpec.upto wordOrdersSpec)) wordOrdersUptoCard

/-- THE SECOND FORM's CARD OF 'flyleaflaw02.WordTurns'. -/
def wordTurnsUptoCard : Claim7 := { stood := { row := wordTurnsUptoRow, standIns := [], harness := (true, "dfaa01abdf7ed5e15640d88c5187a49e334296068d2338f2ecaecb7df4e7d27a"), looks := false }, kinds := [], alts := [], laidByText := true, laidKinds := [.data], laidTests := true, laidLooks := .later }
def WordTurnsUptoCardSaid : Prop := Claim7.holds Tryd.pinned (.plain (OpenSpec.upto wordTurnsSpec)) wordTurnsUptoCard

/-- THE SECOND FORM's CARD OF 'flyleaflaw02.WordKinds'. -/
def wordKindsUptoCard : Claim7 := { stood := { row := wordKindsUptoRow, standIns := [], harness := (true, "dfaa01abdf7ed5e15640d88c5187a49e334296068d2338f2ecaecb7df4e7d27a"), looks := false }, kinds := [], alts := [], laidByText := true, laidKinds := [.data], laidTests := true, laidLooks := .later }
def WordKindsUptoCardSaid : Prop := Claim7.holds Tryd.pinned (.plain (OpenSpec.upto wordKindsSpec)) wordKindsUptoCard

/-- THE SECOND FORM's CARD OF 'flyleaflaw02.WordBack'. -/
def wordBackUptoCard : Claim7 := { stood := { row := wordBackUptoRow, standIns := [], harness := (true, "dfaa01abdf7ed5e15640d88c5187a49e334296068d2338f2ecaecb7df4e7d27a"), looks := false }, kinds := [], alts := [], laidByText := true, laidKinds := [.data], laidTests := true, laidLooks := .later }
def WordBackUptoCardSaid : Prop := Claim7.holds Tryd.pinned (.plain (OpenSpec.upto wordBackSpec)) wordBackUptoCard
end Rows
end Go.Proofs.YtlcconooojlhhaaDoor
