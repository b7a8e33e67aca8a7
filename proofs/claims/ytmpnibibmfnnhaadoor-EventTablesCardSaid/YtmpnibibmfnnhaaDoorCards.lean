/-
  DERIVED. GIVEN WITH THE SEED: THE CARDS: each row of YtmpnibibmfnnhaaDoorRows.lean that lists a variable, with what it lists TIED to the program's text (the seventh form; the later family's looks); each row that meets fmt, with fmt's text TOLD by the authors' own Lean function (tested against real Go, not proved from fmt's source: count such statements apart). THE CARD IS WHAT COUNTS. Prove the row's statement (the work); the ties are given (YtmpnibibmfnnhaaDoorTie.lean); close each card by the builder's one call (the guide's Derived/Test/ToyasCard.lean, 'card_holds'). Laid BY PROGRAM, IN A SANDBOX (cutbox-door.mjs). By AI agents, Wed Nov 11 2026. No macro, syntax, notation, axiom, sorry.
-/
import Derived.Test.YtmpnibibmfnnhaaDoorRows
import GoSem.ClaimSeven
namespace Go.Proofs.YtmpnibibmfnnhaaDoor
namespace Rows

/-- THE TIED CARD OF 'umpirelaw2.EventWords'. -/
def eventWordsCard : Claim7 := { stood := { row := eventWordsRow, standIns := [], harness := (true, "6aca48282c2f3f98b8af5a15a249735a115b609acfb594b066ac61cf73ef91de"), looks := true }, kinds := [], alts := [], laidByText := true, laidKinds := [.data, .data, .data, .sentinel, .sentinel, .sentinel, .sentinel, .sentinel, .sentinel, .sentinel, .sentinel, .data, .data, .data, .data, .data, .data], laidTests := true, laidLooks := .later }
def EventWordsCardSaid : Prop := Claim7.holds Tryd.pinned (.plain (OpenSpec.ofChange eventWordsSpec)) eventWordsCard

/-- THE TIED CARD OF 'umpirelaw2.EventTables'. -/
def eventTablesCard : Claim7 := { stood := { row := eventTablesRow, standIns := [], harness := (true, "6aca48282c2f3f98b8af5a15a249735a115b609acfb594b066ac61cf73ef91de"), looks := true }, kinds := [], alts := [], laidByText := true, laidKinds := [.data, .data, .data, .sentinel, .sentinel, .sentinel, .sentinel, .sentinel, .sentinel, .sentinel, .sentinel, .data, .data, .data, .data, .data, .data], laidTests := true, laidLooks := .later }
def EventTablesCardSaid : Prop := Claim7.holds Tryd.pinned (.plain (OpenSpec.ofChange eventTablesSpec)) eventTablesCard

/-- THE TIED CARD OF 'umpirelaw2.EventOne'. -/
def eventOneCard : Claim7 := { stood := { row := eventOneRow, standIns := [], harness := (true, "6aca48282c2f3f98b8af5a15a249735a115b609acfb594b066ac61cf73ef91de"), looks := true }, kinds := [], alts := [], laidByText := true, laidKinds := [.data, .data, .data, .sentinel, .sentinel, .sentinel, .sentinel, .sentinel, .sentinel, .sentinel, .sentinel, .sentinel, .sentinel, .data, .data, .data, .data, .data, .data], laidTests := true, laidLooks := .later }
def EventOneCardSaid : Prop := Claim7.holds Tryd.pinned (.plain (OpenSpec.ofChange eventOneSpec)) eventOneCard

/-- THE SECOND FORM's CARD OF 'umpirelaw2.EventWords'. -/
def eventWordsUptoCard : Claim7 := { stood := { row := eventWordsUptoRow, standIns := [], harness := (true, "6aca48282c2f3f98b8af5a15a249735a115b609acfb594b066ac61cf73ef91de"), looks := true }, kinds := [], alts := [], laidByText := true, laidKinds := [.data, .data, .data, .sentinel, .sentinel, .sentinel, .sentinel, .sentinel, .sentinel, .sentinel, .sentinel, .data, .data, .data, .data, .data, .data], laidTests := true, laidLooks := .later }
def EventWordsUptoCardSaid : Prop := Claim7.holds Tryd.pinned (.plain (OpenSpec.upto eventWordsSpec)) eventWordsUptoCard

/-- THE SECOND FORM's CARD OF 'umpirelaw2.EventTables'. -/
def eventTablesUptoCard : Claim7 := { stood := { row := eventTablesUptoRow, standIns := [], harness := (true, "6aca48282c2f3f98b8af5a15a249735a115b609acfb594b066ac61cf73ef91de"), looks := true }, kinds := [], alts := [], laidByText := true, laidKinds := [.data, .data, .data, .sentinel, .sentinel, .sentinel, .sentinel, .sentinel, .sentinel, .sentinel, .sentinel, .data, .data, .data, .data, .data, .data], laidTests := true, laidLooks := .later }
def EventTablesUptoCardSaid : Prop := Claim7.holds Tryd.pinned (.plain (OpenSpec.upto eventTablesSpec)) eventTablesUptoCard

/-- THE SECOND FORM's CARD OF 'umpirelaw2.EventOne'. -/
def eventOneUptoCard : Claim7 := { stood := { row := eventOneUptoRow, standIns := [], harness := (true, "6aca48282c2f3f98b8af5a15a249735a115b609acfb594b066ac61cf73ef91de"), looks := true }, kinds := [], alts := [], laidByText := true, laidKinds := [.data, .data, .data, .sentinel, .sentinel, .sentinel, .sentinel, .sentinel, .sentinel, .sentinel, .sentinel, .sentinel, .sentinel, .data, .data, .data, .data, .data, .data], laidTests := true, laidLooks := .later }
def EventOneUptoCardSaid : Prop := Claim7.holds Tryd.pinned (.plain (OpenSpec.upto eventOneSpec)) eventOneUptoCard
end Rows
end Go.Proofs.YtmpnibibmfnnhaaDoor
