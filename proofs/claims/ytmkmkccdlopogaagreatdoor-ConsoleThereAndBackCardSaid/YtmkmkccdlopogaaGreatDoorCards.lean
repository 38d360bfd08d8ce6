/-
  DERIVED. GIVEN WITH THE SEED: THE CARDS: each row of YtmkmkccdlopogaaGreatDoorRows.lean that lists a variable, with what it lists TIED to the program's text (the seventh form; the later family's looks); each row that meets fmt, with fmt's text TOLD by the authors' own Lean function (tested against real Go, not proved from fmt's source: count such statements apart). THE CARD IS WHAT COUNTS. Prove the row's statement (the work); the ties are given (YtmkmkccdlopogaaGreatDoorTie.lean); close each card by the builder's one call (the guide's Derived/Test/ToyasCard.lean, 'card_holds'). Laid BY PROGRAM, IN A SANDBOX (cutbox-door.mjs). By AI agents, Wed Nov 11 2026. No macro, syntax, notation, axiom, sorry.
-/
import Derived.Test.YtmkmkccdlopogaaGreatDoorRows
import GoSem.ClaimSeven
namespace Go.Proofs.YtmkmkccdlopogaaGreatDoor
namespace Rows

/-- THE TIED CARD OF 'mahoutlaw26.ConsoleShows'. -/
def consoleShowsCard : Claim7 := { stood := { row := consoleShowsRow, standIns := [], harness := (true, "ff994569216c042ecccfd1c494b567ae303046173808eb54d137e27b71d0ddd9"), looks := true }, kinds := [], alts := [], laidByText := true, laidKinds := [.data, .data, .data, .data, .handle, .sentinel, .sentinel, .data, .pinned], laidTests := true, laidLooks := .later }
def ConsoleShowsCardSaid : Prop := Claim7.holds Tryz.pinned (.plain (OpenSpec.ofChange consoleShowsSpec)) consoleShowsCard

/-- THE TIED CARD OF 'mahoutlaw26.ConsoleThereAndBack'. -/
def consoleThereAndBackCard : Claim7 := { stood := { row := consoleThereAndBackRow, standIns := [], harness := (true, "ff994569216c042ecccfd1c494b567ae303046173808eb54d137e27b71d0ddd9"), looks := true }, kinds := [], alts := [], laidByText := true, laidKinds := [.data, .data, .data, .data, .handle, .sentinel, .sentinel, .data, .pinned], laidTests := true, laidLooks := .later }
def ConsoleThereAndBackCardSaid : Prop := Claim7.holds Tryz.pinned (.plain (OpenSpec.ofChange consoleThereAndBackSpec)) consoleThereAndBackCard

/-- THE TIED CARD OF 'mahoutlaw26.ConsoleBlanks'. -/
def consoleBlanksCard : Claim7 := { stood := { row := consoleBlanksRow, standIns := [], harness := (true, "ff994569216c042ecccfd1c494b567ae303046173808eb54d137e27b71d0ddd9"), looks := true }, kinds := [], alts := [], laidByText := true, laidKinds := [.data, .data, .data, .data, .handle, .sentinel, .sentinel, .data, .pinned], laidTests := true, laidLooks := .later }
def ConsoleBlanksCardSaid : Prop := Claim7.holds Tryz.pinned (.plain (OpenSpec.ofChange consoleBlanksSpec)) consoleBlanksCard

/-- THE SECOND FORM's CARD OF 'mahoutlaw26.ConsoleShows'. -/
def consoleShowsUptoCard : Claim7 := { stood := { row := consoleShowsUptoRow, standIns := [], harness := (true, "ff994569216c042ecccfd1c494b567ae303046173808eb54d137e27b71d0ddd9"), looks := true }, kinds := [], alts := [], laidByText := true, laidKinds := [.data, .data, .data, .data, .handle, .sentinel, .sentinel, .data, .pinned], laidTests := true, laidLooks := .later }
def ConsoleShowsUptoCardSaid : Prop := Claim7.holds Tryz.pinned (.plain (OpenSpec.upto consoleShowsSpec)) consoleShowsUptoCard

/-- THE SECOND FORM's CARD OF 'mahoutlaw26.ConsoleThereAndBack'. -/
def consoleThereAndBackUptoCard : Claim7 := { stood := { row := consoleThereAndBackUptoRow, standIns := [], harness := (true, "ff994569216c042ecccfd1c494b567ae303046173808eb54d137e27b71d0ddd9"), looks := true }, kinds := [], alts := [], laidByText := true, laidKinds := [.data, .data, .data, .data, .handle, .sentinel, .sentinel, .data, .pinned], laidTests := true, laidLooks := .later }
def ConsoleThereAndBackUptoCardSaid : Prop := Claim7.holds Tryz.pinned (.plain (OpenSpec.upto consoleThereAndBackSpec)) consoleThereAndBackUptoCard

/-- THE SECOND FORM's CARD OF 'mahoutlaw26.ConsoleBlanks'. -/
def consoleBlanksUptoCard : Claim7 := { stood := { row := consoleBlanksUptoRow, standIns := [], harness := (true, "ff994569216c042ecccfd1c494b567ae303046173808eb54d137e27b71d0ddd9"), looks := true }, kinds := [], alts := [], laidByText := true, laidKinds := [.data, .data, .data, .data, .handle, .sentinel, .sentinel, .data, .pinned], laidTests := true, laidLooks := .later }
def ConsoleBlanksUptoCardSaid : Prop := Claim7.holds Tryz.pinned (.plain (OpenSpec.upto consoleBlanksSpec)) consoleBlanksUptoCard
end Rows
end Go.Proofs.YtmkmkccdlopogaaGreatDoor
