/-
  DERIVED. GIVEN WITH THE SEED: THE CARDS: each row of YtifaimbjigdccaaDoorRows.lean that lists a variable, with what it lists TIED to the program's text (the seventh form; the later family's looks); each row that meets fmt, with fmt's text TOLD by the authors' own Lean function (tested against real Go, not proved from fmt's source: count such statements apart). THE CARD IS WHAT COUNTS. Prove the row's statement (the work); the ties are given (YtifaimbjigdccaaDoorTie.lean); close each card by the builder's one call (the guide's Derived/Test/ToyasCard.lean, 'card_holds'). Laid BY PROGRAM, IN A SANDBOX (cutbox-door.mjs). By AI agents, Wed Nov 11 2026. No macro, syntax, notation, axiom, sorry.
-/
import Derived.Test.YtifaimbjigdccaaDoorRows
import GoSem.ClaimSeven
namespace Go.Proofs.YtifaimbjigdccaaDoor
namespace Rows

/-- THE TIED CARD OF 'umpirelaw1.WordWords'. -/
def wordWordsCard : Claim7 := { stood := { row := wordWordsRow, standIns := [], harness := (true, "6af88fe52fad235a503a04f82d0243f811627c54c649ae476295e863e8ea0ef3"), looks := true }, kinds := [], alts := [], laidByText := true, laidKinds := [.data, .data, .data, .data, .sentinel, .sentinel, .sentinel, .sentinel, .sentinel, .pinned], laidTests := true, laidLooks := .later }
def WordWordsCardSaid : Prop := Claim7.holds Tryd.pinned (.plain (OpenSpec.ofChange wordWordsSpec)) wordWordsCard

/-- THE TIED CARD OF 'umpirelaw1.WordBack'. -/
def wordBackCard : Claim7 := { stood := { row := wordBackRow, standIns := [], harness := (true, "6af88fe52fad235a503a04f82d0243f811627c54c649ae476295e863e8ea0ef3"), looks := true }, kinds := [], alts := [], laidByText := true, laidKinds := [.data, .data, .data, .data, .sentinel, .sentinel, .sentinel, .sentinel, .sentinel, .pinned], laidTests := true, laidLooks := .later }
def WordBackCardSaid : Prop := Claim7.holds Tryd.pinned (.plain (OpenSpec.ofChange wordBackSpec)) wordBackCard

/-- THE TIED CARD OF 'umpirelaw1.WordOne'. -/
def wordOneCard : Claim7 := { stood := { row := wordOneRow, standIns := [], harness := (true, "6af88fe52fad235a503a04f82d0243f811627c54c649ae476295e863e8ea0ef3"), looks := true }, kinds := [], alts := [], laidByText := true, laidKinds := [.data, .data, .data, .data, .sentinel, .sentinel, .sentinel, .sentinel, .sentinel, .pinned], laidTests := true, laidLooks := .later }
def WordOneCardSaid : Prop := Claim7.holds Tryd.pinned (.plain (OpenSpec.ofChange wordOneSpec)) wordOneCard

/-- THE TIED CARD OF 'umpirelaw1.WordOwn'. -/
def wordOwnCard : Claim7 := { stood := { row := wordOwnRow, standIns := [], harness := (true, "6af88fe52fad235a503a04f82d0243f811627c54c649ae476295e863e8ea0ef3"), looks := true }, kinds := [], alts := [], laidByText := true, laidKinds := [.data, .data, .data, .data, .sentinel, .sentinel, .sentinel, .sentinel, .sentinel, .pinned], laidTests := true, laidLooks := .later }
def WordOwnCardSaid : Prop := Claim7.holds Tryd.pinned (.plain (OpenSpec.ofChange wordOwnSpec)) wordOwnCard

/-- THE TIED CARD OF 'umpirelaw1.WordLines'. -/
def wordLinesCard : Claim7 := { stood := { row := wordLinesRow, standIns := [], harness := (true, "6af88fe52fad235a503a04f82d0243f811627c54c649ae476295e863e8ea0ef3"), looks := true }, kinds := [], alts := [], laidByText := true, laidKinds := [.data, .data, .data, .data, .sentinel, .sentinel, .sentinel, .sentinel, .sentinel, .pinned], laidTests := true, laidLooks := .later }
def WordLinesCardSaid : Prop := Claim7.holds Tryd.pinned (.plain (OpenSpec.ofChange wordLinesSpec)) wordLinesCard

/-- THE TIED CARD OF 'umpirelaw1.WordJoins'. -/
def wordJoinsCard : Claim7 := { stood := { row := wordJoinsRow, standIns := [], harness := (true, "6af88fe52fad235a503a04f82d0243f811627c54c649ae476295e863e8ea0ef3"), looks := true }, kinds := [], alts := [], laidByText := true, laidKinds := [.data, .data, .data, .data, .sentinel, .sentinel, .sentinel, .sentinel, .sentinel, .pinned], laidTests := true, laidLooks := .later }
def WordJoinsCardSaid : Prop := Claim7.holds Tryd.pinned (.plain (OpenSpec.ofChange wordJoinsSpec)) wordJoinsCard

/-- THE SECOND FORM's CARD OF 'umpirelaw1.WordWords'. -/
def wordWordsUptoCard : Claim7 := { stood := { row := wordWordsUptoRow, standIns := [], harness := (true, "6af88fe52fad235a503a04f82d0243f811627c54c649ae476295e863e8ea0ef3"), looks := true }, kinds := [], alts := [], laidByText := true, laidKinds := [.data, .data, .data, .data, .sentinel, .sentinel, .sentinel, .sentinel, .sentinel, .pinned], laidTests := true, laidLooks := .later }
def WordWordsUptoCardSaid : Prop := Claim7.holds Tryd.pinned (.plain (OpenSpec.upto wordWordsSpec)) wordWordsUptoCard

/-- THE SECOND FORM's CARD OF 'umpirelaw1.WordBack'. -/
def wordBackUptoCard : Claim7 := { stood := { row := wordBackUptoRow, standIns := [], harness := (true, "6af88fe52fad235a503a04f82d0243f811627c54c649ae476295e863e8ea0ef3"), looks := true }, kinds := [], alts := [], laidByText := true, laidKinds := [.data, .data, .data, .data, .sentinel, .sentinel, .sentinel, .sentinel, .sentinel, .pinned], laidTests := true, laidLooks := .later }
def WordBackUptoCardSaid : Prop := Claim7.holds Tryd.pinned (.plain (OpenSpec.upto wordBackSpec)) wordBackUptoCard

/-- THE SECOND FORM's CARD OF 'umpirelaw1.WordOne'. -/
def wordOneUptoCard : Claim7 := { stood := { row := wordOneUptoRow, standIns := [], harness := (true, "6af88fe52fad235a503a04f82d0243f811627c54c649ae476295e863e8ea0ef3"), looks := true }, kinds := [], alts := [], laidByText := true, laidKinds := [.data, .data, .data, .data, .sentinel, .sentinel, .sentinel, .sentinel, .sentinel, .pinned], laidTests := true, laidLooks := .later }
def WordOneUptoCardSaid : Prop := Claim7.holds Tryd.pinned (.plain (OpenSpec.upto wordOneSpec)) wordOneUptoCard

/-- THE SECOND FORM's CARD OF 'umpirelaw1.WordOwn'. -/
def wordOwnUptoCard : Claim7 := { stood := { row := wordOwnUptoRow, standIns := [], harness := (true, "6af88fe52fad235a503a04f82d0243f811627c54c649ae476295e863e8ea0ef3"), looks := true }, kinds := [], alts := [], laidByText := true, laidKinds := [.data, .data, .data, .data, .sentinel, .sentinel, .sentinel, .sentinel, .sentinel, .pinned], laidTests := true, laidLooks := .later }
def WordOwnUptoCardSaid : Prop := Claim7.holds Tryd.pinned (.plain (OpenSpec.upto wordOwnSpec)) wordOwnUptoCard

/-- THE SECOND FORM's CARD OF 'umpirelaw1.WordLines'. -/
def wordLinesUptoCard : Claim7 := { stood := { row := wordLinesUptoRow, standIns := [], harness := (true, "6af88fe52fad235a503a04f82d0243f811627c54c649ae476295e863e8ea0ef3"), looks := true }, kinds := [], alts := [], laidByText := true, laidKinds := [.data, .data, .data, .data, .sentinel, .sentinel, .sentinel, .sentinel, .sentinel, .pinned], laidTests := true, laidLooks := .later }
def WordLinesUptoCardSaid : Prop := Claim7.holds Tryd.pinned (.plain (OpenSpec.upto wordLinesSpec)) wordLinesUptoCard

/-- THE SECOND FORM's CARD OF 'umpirelaw1.WordJoins'. -/
def wordJoinsUptoCard : Claim7 := { stood := { row := wordJoinsUptoRow, standIns := [], harness := (true, "6af88fe52fad235a503a04f82d0243f811627c54c649ae476295e863e8ea0ef3"), looks := true }, kinds := [], alts := [], laidByText := true, laidKinds := [.data, .data, .data, .data, .sentinel, .sentinel, .sentinel, .sentinel, .sentinel, .pinned], laidTests := true, laidLooks := .later }
def WordJoinsUptoCardSaid : Prop := Claim7.holds Tryd.pinned (.plain (OpenSpec.upto wordJoinsSpec)) wordJoinsUptoCard
end Rows
end Go.Proofs.YtifaimbjigdccaaDoor
