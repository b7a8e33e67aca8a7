/-
  DERIVED. GIVEN WITH THE SEED: THE CARDS: each row of YthdapdmpbbabcaaDoorRows.lean that lists a variable, with what it lists TIED to the program's text (the seventh form; the later family's looks); each row that meets fmt, with fmt's text TOLD by the authors' own Lean function (tested against real Go, not proved from fmt's source: count such statements apart). THE CARD IS WHAT COUNTS. Prove the row's statement (the work); the ties are given (YthdapdmpbbabcaaDoorTie.lean); close each card by the builder's one call (the guide's Derived/Test/ToyasCard.lean, 'card_holds'). Laid BY PROGRAM, IN A SANDBOX (cutbox-door.mjs). By AI agents, Wed Nov 11 2026. No macro, syntax, notation, axiom, sorry.
-/
import Derived.Test.YthdapdmpbbabcaaDoorRows
import GoSem.ClaimSeven
namespace Go.Proofs.YthdapdmpbbabcaaDoor
namespace Rows

/-- THE TIED CARD OF 'umpirelaw11.MemoQueues'. -/
def memoQueuesCard : Claim7 := { stood := { row := memoQueuesRow, standIns := [], harness := (true, "753817e123b8cdcb5295286310e070a626474e32e88a6d9265addcdca8044532"), looks := true }, kinds := [], alts := [], laidByText := true, laidKinds := [.sentinel], laidTests := true, laidLooks := .later }
def MemoQueuesCardSaid : Prop := Claim7.holds Tryd.pinned (.plain (OpenSpec.ofChange memoQueuesSpec)) memoQueuesCard

/-- THE TIED CARD OF 'umpirelaw11.MemoLogs'. -/
def memoLogsCard : Claim7 := { stood := { row := memoLogsRow, standIns := [], harness := (true, "753817e123b8cdcb5295286310e070a626474e32e88a6d9265addcdca8044532"), looks := true }, kinds := [], alts := [], laidByText := true, laidKinds := [.sentinel], laidTests := true, laidLooks := .later }
def MemoLogsCardSaid : Prop := Claim7.holds Tryd.pinned (.plain (OpenSpec.ofChange memoLogsSpec)) memoLogsCard

/-- THE TIED CARD OF 'umpirelaw11.MemoSets'. -/
def memoSetsCard : Claim7 := { stood := { row := memoSetsRow, standIns := [], harness := (true, "753817e123b8cdcb5295286310e070a626474e32e88a6d9265addcdca8044532"), looks := true }, kinds := [], alts := [], laidByText := true, laidKinds := [.sentinel], laidTests := true, laidLooks := .later }
def MemoSetsCardSaid : Prop := Claim7.holds Tryd.pinned (.plain (OpenSpec.ofChange memoSetsSpec)) memoSetsCard

/-- THE TIED CARD OF 'umpirelaw11.MemoEach'. -/
def memoEachCard : Claim7 := { stood := { row := memoEachRow, standIns := [], harness := (true, "753817e123b8cdcb5295286310e070a626474e32e88a6d9265addcdca8044532"), looks := true }, kinds := [], alts := [], laidByText := true, laidKinds := [.sentinel], laidTests := true, laidLooks := .later }
def MemoEachCardSaid : Prop := Claim7.holds Tryd.pinned (.plain (OpenSpec.ofChange memoEachSpec)) memoEachCard

/-- THE TIED CARD OF 'umpirelaw11.MemoStays'. -/
def memoStaysCard : Claim7 := { stood := { row := memoStaysRow, standIns := [], harness := (true, "753817e123b8cdcb5295286310e070a626474e32e88a6d9265addcdca8044532"), looks := true }, kinds := [], alts := [], laidByText := true, laidKinds := [.sentinel], laidTests := true, laidLooks := .later }
def MemoStaysCardSaid : Prop := Claim7.holds Tryd.pinned (.plain (OpenSpec.ofChange memoStaysSpec)) memoStaysCard

/-- THE SECOND FORM's CARD OF 'umpirelaw11.MemoQueues'. -/
def memoQueuesUptoCard : Claim7 := { stood := { row := memoQueuesUptoRow, standIns := [], harness := (true, "753817e123b8cdcb5295286310e070a626474e32e88a6d9265addcdca8044532"), looks := true }, kinds := [], alts := [], laidByText := true, laidKinds := [.sentinel], laidTests := true, laidLooks := .later }
def MemoQueuesUptoCardSaid : Prop := Claim7.holds Tryd.pinned (.plain (OpenSpec.upto memoQueuesSpec)) memoQueuesUptoCard

/-- THE SECOND FORM's CARD OF 'umpirelaw11.MemoLogs'. -/
def memoLogsUptoCard : Claim7 := { stood := { row := memoLogsUptoRow, standIns := [], harness := (true, "753817e123b8cdcb5295286310e070a626474e32e88a6d9265addcdca8044532"), looks := true }, kinds := [], alts := [], laidByText := true, laidKinds := [.sentinel], laidTests := true, laidLooks := .later }
def MemoLogsUptoCardSaid : Prop := Claim7.holds Tryd.pinned (.plain (OpenSpec.upto memoLogsSpec)) memoLogsUptoCard

/-- THE SECOND FORM's CARD OF 'umpirelaw11.MemoSets'. -/
def memoSetsUptoCard : Claim7 := { stood := { row := memoSetsUptoRow, standIns := [], harness := (true, "753817e123b8cdcb5295286310e070a626474e32e88a6d9265addcdca8044532"), looks := true }, kinds := [], alts := [], laidByText := true, laidKinds := [.sentinel], laidTests := true, laidLooks := .later }
def MemoSetsUptoCardSaid : Prop := Claim7.holds Tryd.pinned (.plain (OpenSpec.upto memoSetsSpec)) memoSetsUptoCard

/-- THE SECOND FORM's CARD OF 'umpirelaw11.MemoEach'. -/
def memoEachUptoCard : Claim7 := { stood := { row := memoEachUptoRow, standIns := [], harness := (true, "753817e123b8cdcb5295286310e070a626474e32e88a6d9265addcdca8044532"), looks := true }, kinds := [], alts := [], laidByText := true, laidKinds := [.sentinel], laidTests := true, laidLooks := .later }
def MemoEachUptoCardSaid : Prop := Claim7.holds Tryd.pinned (.plain (OpenSpec.upto memoEachSpec)) memoEachUptoCard

/-- THE SECOND FORM's CARD OF 'umpirelaw11.MemoStays'. -/
def memoStaysUptoCard : Claim7 := { stood := { row := memoStaysUptoRow, standIns := [], harness := (true, "753817e123b8cdcb5295286310e070a626474e32e88a6d9265addcdca8044532"), looks := true }, kinds := [], alts := [], laidByText := true, laidKinds := [.sentinel], laidTests := true, laidLooks := .later }
def MemoStaysUptoCardSaid : Prop := Claim7.holds Tryd.pinned (.plain (OpenSpec.upto memoStaysSpec)) memoStaysUptoCard
end Rows
end Go.Proofs.YthdapdmpbbabcaaDoor
