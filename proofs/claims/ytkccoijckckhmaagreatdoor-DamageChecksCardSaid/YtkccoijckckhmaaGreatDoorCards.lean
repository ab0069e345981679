/-
  DERIVED. GIVEN WITH THE SEED: THE CARDS: each row of YtkccoijckckhmaaGreatDoorRows.lean that lists a variable, with what it lists TIED to the program's text (the seventh form; the later family's looks); each row that meets fmt, with fmt's text TOLD by the authors' own Lean function (tested against real Go, not proved from fmt's source: count such statements apart). THE CARD IS WHAT COUNTS. Prove the row's statement (the work); the ties are given (YtkccoijckckhmaaGreatDoorTie.lean); close each card by the builder's one call (the guide's Derived/Test/ToyasCard.lean, 'card_holds'). Laid BY PROGRAM, IN A SANDBOX (cutbox-door.mjs). By AI agents, Wed Nov 11 2026. No macro, syntax, notation, axiom, sorry.
-/
import Derived.Test.YtkccoijckckhmaaGreatDoorRows
import GoSem.ClaimSeven
namespace Go.Proofs.YtkccoijckckhmaaGreatDoor
namespace Rows

/-- THE TIED CARD OF 'schismalaw28.TradeoffBetween'. -/
def tradeoffBetweenCard : Claim7 := { stood := { row := tradeoffBetweenRow, standIns := [], harness := (true, "514bde509d88ef5fd0aa281d0c85a2af07a25ca5d31875a4d3584f0b1777cf30"), looks := true }, kinds := [], alts := [], laidByText := true, laidKinds := [.data, .data, .data, .sentinel, .sentinel], laidTests := true, laidLooks := .later }
def TradeoffBetweenCardSaid : Prop := Claim7.holds Tryz.pinned (.plain (OpenSpec.ofChange tradeoffBetweenSpec)) tradeoffBetweenCard

/-- THE TIED CARD OF 'schismalaw28.TradeoffAlike'. -/
def tradeoffAlikeCard : Claim7 := { stood := { row := tradeoffAlikeRow, standIns := [], harness := (true, "514bde509d88ef5fd0aa281d0c85a2af07a25ca5d31875a4d3584f0b1777cf30"), looks := true }, kinds := [], alts := [], laidByText := true, laidKinds := [.data, .data, .data, .sentinel, .sentinel], laidTests := true, laidLooks := .later }
def TradeoffAlikeCardSaid : Prop := Claim7.holds Tryz.pinned (.plain (OpenSpec.ofChange tradeoffAlikeSpec)) tradeoffAlikeCard

/-- THE TIED CARD OF 'schismalaw28.TradeoffCommon'. -/
def tradeoffCommonCard : Claim7 := { stood := { row := tradeoffCommonRow, standIns := [], harness := (true, "514bde509d88ef5fd0aa281d0c85a2af07a25ca5d31875a4d3584f0b1777cf30"), looks := true }, kinds := [], alts := [], laidByText := true, laidKinds := [.data, .data, .data, .sentinel, .sentinel], laidTests := true, laidLooks := .later }
def TradeoffCommonCardSaid : Prop := Claim7.holds Tryz.pinned (.plain (OpenSpec.ofChange tradeoffCommonSpec)) tradeoffCommonCard

/-- THE TIED CARD OF 'schismalaw28.TradeoffChecks'. -/
def tradeoffChecksCard : Claim7 := { stood := { row := tradeoffChecksRow, standIns := [], harness := (true, "514bde509d88ef5fd0aa281d0c85a2af07a25ca5d31875a4d3584f0b1777cf30"), looks := true }, kinds := [], alts := [], laidByText := true, laidKinds := [.data, .data, .data, .sentinel, .sentinel], laidTests := true, laidLooks := .later }
def TradeoffChecksCardSaid : Prop := Claim7.holds Tryz.pinned (.plain (OpenSpec.ofChange tradeoffChecksSpec)) tradeoffChecksCard

/-- THE TIED CARD OF 'schismalaw28.TradeoffPures'. -/
def tradeoffPuresCard : Claim7 := { stood := { row := tradeoffPuresRow, standIns := [], harness := (true, "514bde509d88ef5fd0aa281d0c85a2af07a25ca5d31875a4d3584f0b1777cf30"), looks := true }, kinds := [], alts := [], laidByText := true, laidKinds := [.data, .data, .data, .sentinel, .sentinel], laidTests := true, laidLooks := .later }
def TradeoffPuresCardSaid : Prop := Claim7.holds Tryz.pinned (.plain (OpenSpec.ofChange tradeoffPuresSpec)) tradeoffPuresCard

/-- THE TIED CARD OF 'schismalaw25.DamageChecks'. -/
def damageChecksCard : Claim7 := { stood := { row := damageChecksRow, standIns := [], harness := (true, "514bde509d88ef5fd0aa281d0c85a2af07a25ca5d31875a4d3584f0b1777cf30"), looks := true }, kinds := [], alts := [], laidByText := true, laidKinds := [.data, .data, .data, .sentinel, .sentinel], laidTests := true, laidLooks := .later }
def DamageChecksCardSaid : Prop := Claim7.holds Tryz.pinned (.plain (OpenSpec.ofChange damageChecksSpec)) damageChecksCard

/-- THE SECOND FORM's CARD OF 'schismalaw28.TradeoffBetween'. -/
def tradeoffBetweenUptoCard : Claim7 := { stood := { row := tradeoffBetweenUptoRow, standIns := [], harness := (true, "514bde509d88ef5fd0aa281d0c85a2af07a25ca5d31875a4d3584f0b1777cf30"), looks := true }, kinds := [], alts := [], laidByText := true, laidKinds := [.data, .data, .data, .sentinel, .sentinel], laidTests := true, laidLooks := .later }
def TradeoffBetweenUptoCardSaid : Prop := Claim7.holds Tryz.pinned (.plain (OpenSpec.upto tradeoffBetweenSpec)) tradeoffBetweenUptoCard

/-- THE SECOND FORM's CARD OF 'schismalaw28.TradeoffAlike'. -/
def tradeoffAlikeUptoCard : Claim7 := { stood := { row := tradeoffAlikeUptoRow, standIns := [], harness := (true, "514bde509d88ef5fd0aa281d0c85a2af07a25ca5d31875a4d3584f0b1777cf30"), looks := true }, kinds := [], alts := [], laidByText := true, laidKinds := [.data, .data, .data, .sentinel, .sentinel], laidTests := true, laidLooks := .later }
def TradeoffAlikeUptoCardSaid : Prop := Claim7.holds Tryz.pinned (.plain (OpenSpec.upto tradeoffAlikeSpec)) tradeoffAlikeUptoCard

/-- THE SECOND FORM's CARD OF 'schismalaw28.TradeoffCommon'. -/
def tradeoffCommonUptoCard : Claim7 := { stood := { row := tradeoffCommonUptoRow, standIns := [], harness := (true, "514bde509d88ef5fd0aa281d0c85a2af07a25ca5d31875a4d3584f0b1777cf30"), looks := true }, kinds := [], alts := [], laidByText := true, laidKinds := [.data, .data, .data, .sentinel, .sentinel], laidTests := true, laidLooks := .later }
def TradeoffCommonUptoCardSaid : Prop := Claim7.holds Tryz.pinned (.plain (OpenSpec.upto tradeoffCommonSpec)) tradeoffCommonUptoCard

/-- THE SECOND FORM's CARD OF 'schismalaw28.TradeoffChecks'. -/
def tradeoffChecksUptoCard : Claim7 := { stood := { row := tradeoffChecksUptoRow, standIns := [], harness := (true, "514bde509d88ef5fd0aa281d0c85a2af07a25ca5d31875a4d3584f0b1777cf30"), looks := true }, kinds := [], alts := [], laidByText := true, laidKinds := [.data, .data, .data, .sentinel, .sentinel], laidTests := true, laidLooks := .later }
def TradeoffChecksUptoCardSaid : Prop := Claim7.holds Tryz.pinned (.plain (OpenSpec.upto tradeoffChecksSpec)) tradeoffChecksUptoCard

/-- THE SECOND FORM's CARD OF 'schismalaw28.TradeoffPures'. -/
def tradeoffPuresUptoCard : Claim7 := { stood := { row := tradeoffPuresUptoRow, standIns := [], harness := (true, "514bde509d88ef5fd0aa281d0c85a2af07a25ca5d31875a4d3584f0b1777cf30"), looks := true }, kinds := [], alts := [], laidByText := true, laidKinds := [.data, .data, .data, .sentinel, .sentinel], laidTests := true, laidLooks := .later }
def TradeoffPuresUptoCardSaid : Prop := Claim7.holds Tryz.pinned (.plain (OpenSpec.upto tradeoffPuresSpec)) tradeoffPuresUptoCard

/-- THE SECOND FORM's CARD OF 'schismalaw25.DamageChecks'. -/
def damageChecksUptoCard : Claim7 := { stood := { row := damageChecksUptoRow, standIns := [], harness := (true, "514bde509d88ef5fd0aa281d0c85a2af07a25ca5d31875a4d3584f0b1777cf30"), looks := true }, kinds := [], alts := [], laidByText := true, laidKinds := [.data, .data, .data, .sentinel, .sentinel], laidTests := true, laidLooks := .later }
def DamageChecksUptoCardSaid : Prop := Claim7.holds Tryz.pinned (.plain (OpenSpec.upto damageChecksSpec)) damageChecksUptoCard
end Rows
end Go.Proofs.YtkccoijckckhmaaGreatDoor
