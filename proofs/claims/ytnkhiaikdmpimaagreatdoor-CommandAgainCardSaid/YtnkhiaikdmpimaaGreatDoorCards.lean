/-
  DERIVED. GIVEN WITH THE SEED: THE CARDS: each row of YtnkhiaikdmpimaaGreatDoorRows.lean that lists a variable, with what it lists TIED to the program's text (the seventh form; the later family's looks); each row that meets fmt, with fmt's text TOLD by the authors' own Lean function (tested against real Go, not proved from fmt's source: count such statements apart). THE CARD IS WHAT COUNTS. Prove the row's statement (the work); the ties are given (YtnkhiaikdmpimaaGreatDoorTie.lean); close each card by the builder's one call (the guide's Derived/Test/ToyasCard.lean, 'card_holds'). Laid BY PROGRAM, IN A SANDBOX (cutbox-door.mjs). By AI agents, Wed Nov 11 2026. No macro, syntax, notation, axiom, sorry.
-/
import Derived.Test.YtnkhiaikdmpimaaGreatDoorRows
import GoSem.ClaimSeven
namespace Go.Proofs.YtnkhiaikdmpimaaGreatDoor
namespace Rows

/-- THE TIED CARD OF 'cauterylaw34.CommandText'. -/
def commandTextCard : Claim7 := { stood := { row := commandTextRow, standIns := [], harness := (true, "538ade39e822556d7c03b624ae50e4ad8830e59d79198e4cae3252e5436103ae"), looks := true }, kinds := [], alts := [], laidByText := true, laidKinds := [.data, .data, .data, .data, .sentinel, .sentinel, .pinned], laidTests := true, laidLooks := .later }
def CommandTextCardSaid : Prop := Claim7.holds Tryz.pinned (.plain (OpenSpec.ofChange commandTextSpec)) commandTextCard

/-- THE TIED CARD OF 'cauterylaw34.CommandBack'. -/
def commandBackCard : Claim7 := { stood := { row := commandBackRow, standIns := [], harness := (true, "538ade39e822556d7c03b624ae50e4ad8830e59d79198e4cae3252e5436103ae"), looks := true }, kinds := [], alts := [], laidByText := true, laidKinds := [.data, .data, .data, .data, .sentinel, .sentinel, .pinned], laidTests := true, laidLooks := .later }
def CommandBackCardSaid : Prop := Claim7.holds Tryz.pinned (.plain (OpenSpec.ofChange commandBackSpec)) commandBackCard

/-- THE TIED CARD OF 'cauterylaw34.CommandAgain'. -/
def commandAgainCard : Claim7 := { stood := { row := commandAgainRow, standIns := [], harness := (true, "538ade39e822556d7c03b624ae50e4ad8830e59d79198e4cae3252e5436103ae"), looks := true }, kinds := [], alts := [], laidByText := true, laidKinds := [.data, .data, .data, .data, .sentinel, .sentinel, .pinned], laidTests := true, laidLooks := .later }
def CommandAgainCardSaid : Prop := Claim7.holds Tryz.pinned (.plain (OpenSpec.ofChange commandAgainSpec)) commandAgainCard

/-- THE SECOND FORM's CARD OF 'cauterylaw34.CommandText'. -/
def commandTextUptoCard : Claim7 := { stood := { row := commandTextUptoRow, standIns := [], harness := (true, "538ade39e822556d7c03b624ae50e4ad8830e59d79198e4cae3252e5436103ae"), looks := true }, kinds := [], alts := [], laidByText := true, laidKinds := [.data, .data, .data, .data, .sentinel, .sentinel, .pinned], laidTests := true, laidLooks := .later }
def CommandTextUptoCardSaid : Prop := Claim7.holds Tryz.pinned (.plain (OpenSpec.upto commandTextSpec)) commandTextUptoCard

/-- THE SECOND FORM's CARD OF 'cauterylaw34.CommandBack'. -/
def commandBackUptoCard : Claim7 := { stood := { row := commandBackUptoRow, standIns := [], harness := (true, "538ade39e822556d7c03b624ae50e4ad8830e59d79198e4cae3252e5436103ae"), looks := true }, kinds := [], alts := [], laidByText := true, laidKinds := [.data, .data, .data, .data, .sentinel, .sentinel, .pinned], laidTests := true, laidLooks := .later }
def CommandBackUptoCardSaid : Prop := Claim7.holds Tryz.pinned (.plain (OpenSpec.upto commandBackSpec)) commandBackUptoCard

/-- THE SECOND FORM's CARD OF 'cauterylaw34.CommandAgain'. -/
def commandAgainUptoCard : Claim7 := { stood := { row := commandAgainUptoRow, standIns := [], harness := (true, "538ade39e822556d7c03b624ae50e4ad8830e59d79198e4cae3252e5436103ae"), looks := true }, kinds := [], alts := [], laidByText := true, laidKinds := [.data, .data, .data, .data, .sentinel, .sentinel, .pinned], laidTests := true, laidLooks := .later }
def CommandAgainUptoCardSaid : Prop := Claim7.holds Tryz.pinned (.plain (OpenSpec.upto commandAgainSpec)) commandAgainUptoCard
end Rows
end Go.Proofs.YtnkhiaikdmpimaaGreatDoor
