/-
  DERIVED. GIVEN WITH THE SEED: THE CARDS: each row of YtpoojimmponklaaDoorRows.lean that lists a variable, with what it lists TIED to the program's text (the seventh form; the later family's looks); each row that meets fmt, with fmt's text TOLD by the authors' own Lean function (tested against real Go, not proved from fmt's source: count such statements apart). THE CARD IS WHAT COUNTS. Prove the row's statement (the work); the ties are given (YtpoojimmponklaaDoorTie.lean); close each card by the builder's one call (the guide's Derived/Test/ToyasCard.lean, 'card_holds'). Laid BY PROGRAM, IN A SANDBOX (cutbox-door.mjs). By AI agents, Wed Nov 11 2026. No macro, syntax, notation, axiom, sorry.
-/
import Derived.Test.YtpoojimmponklaaDoorRows
import GoSem.ClaimSeven
namespace Go.Proofs.YtpoojimmponklaaDoor
namespace Rows

/-- THE TIED CARD OF 'lemmalaw02.SymScopes'. -/
def symScopesCard : Claim7 := { stood := { row := symScopesRow, standIns := [], harness := (true, "dbf98fe4043b39d0ac50043cf3685d0eadb2abb7acf225499ff45ab5cd9e0157"), looks := false }, kinds := [], alts := [], laidByText := true, laidKinds := [.data], laidTests := true, laidLooks := .later }
def SymScopesCardSaid : Prop := Claim7.holds Tryd.pinned (.plain (OpenSpec.ofChange symScopesSpec)) symScopesCard

/-- THE TIED CARD OF 'lemmalaw02.SymForever'. -/
def symForeverCard : Claim7 := { stood := { row := symForeverRow, standIns := [], harness := (true, "dbf98fe4043b39d0ac50043cf3685d0eadb2abb7acf225499ff45ab5cd9e0157"), looks := false }, kinds := [], alts := [], laidByText := true, laidKinds := [.data], laidTests := true, laidLooks := .later }
def SymForeverCardSaid : Prop := Claim7.holds Tryd.pinned (.plain (OpenSpec.ofChange symForeverSpec)) symForeverCard

/-- THE TIED CARD OF 'lemmalaw02.SymLabels'. -/
def symLabelsCard : Claim7 := { stood := { row := symLabelsRow, standIns := [], harness := (true, "dbf98fe4043b39d0ac50043cf3685d0eadb2abb7acf225499ff45ab5cd9e0157"), looks := false }, kinds := [], alts := [], laidByText := true, laidKinds := [.data], laidTests := true, laidLooks := .later }
def SymLabelsCardSaid : Prop := Claim7.holds Tryd.pinned (.plain (OpenSpec.ofChange symLabelsSpec)) symLabelsCard

/-- THE TIED CARD OF 'lemmalaw02.SymMemory'. -/
def symMemoryCard : Claim7 := { stood := { row := symMemoryRow, standIns := [], harness := (true, "dbf98fe4043b39d0ac50043cf3685d0eadb2abb7acf225499ff45ab5cd9e0157"), looks := false }, kinds := [], alts := [], laidByText := true, laidKinds := [.data], laidTests := true, laidLooks := .later }
def SymMemoryCardSaid : Prop := Claim7.holds Tryd.pinned (.plain (OpenSpec.ofChange symMemorySpec)) symMemoryCard

/-- THE TIED CARD OF 'lemmalaw02.SymFinds'. -/
def symFindsCard : Claim7 := { stood := { row := symFindsRow, standIns := [], harness := (true, "dbf98fe4043b39d0ac50043cf3685d0eadb2abb7acf225499ff45ab5cd9e0157"), looks := false }, kinds := [], alts := [], laidByText := true, laidKinds := [.data], laidTests := true, laidLooks := .later }
def SymFindsCardSaid : Prop := Claim7.holds Tryd.pinned (.plain (OpenSpec.ofChange symFindsSpec)) symFindsCard

/-- THE TIED CARD OF 'lemmalaw02.SymFull'. -/
def symFullCard : Claim7 := { stood := { row := symFullRow, standIns := [], harness := (true, "dbf98fe4043b39d0ac50043cf3685d0eadb2abb7acf225499ff45ab5cd9e0157"), looks := false }, kinds := [], alts := [], laidByText := true, laidKinds := [.data], laidTests := true, laidLooks := .later }
def SymFullCardSaid : Prop := Claim7.holds Tryd.pinned (.plain (OpenSpec.ofChange symFullSpec)) symFullCard

/-- THE TIED CARD OF 'lemmalaw02.SymPlays'. -/
def symPlaysCard : Claim7 := { stood := { row := symPlaysRow, standIns := [], harness := (true, "dbf98fe4043b39d0ac50043cf3685d0eadb2abb7acf225499ff45ab5cd9e0157"), looks := false }, kinds := [], alts := [], laidByText := true, laidKinds := [.data], laidTests := true, laidLooks := .later }
def SymPlaysCardSaid : Prop := Claim7.holds Tryd.pinned (.plain (OpenSpec.ofChange symPlaysSpec)) symPlaysCard

/-- THE TIED CARD OF 'lemmalaw03.ExprKeeps'. -/
def exprKeepsCard : Claim7 := { stood := { row := exprKeepsRow, standIns := [], harness := (true, "dbf98fe4043b39d0ac50043cf3685d0eadb2abb7acf225499ff45ab5cd9e0157"), looks := false }, kinds := [], alts := [], laidByText := true, laidKinds := [.data], laidTests := true, laidLooks := .later }
def ExprKeepsCardSaid : Prop := Claim7.holds Tryd.pinned (.plain (OpenSpec.ofChange exprKeepsSpec)) exprKeepsCard

/-- THE TIED CARD OF 'lemmalaw03.ExprWords'. -/
def exprWordsCard : Claim7 := { stood := { row := exprWordsRow, standIns := [], harness := (true, "dbf98fe4043b39d0ac50043cf3685d0eadb2abb7acf225499ff45ab5cd9e0157"), looks := false }, kinds := [], alts := [], laidByText := true, laidKinds := [.data, .data, .data, .data], laidTests := true, laidLooks := .later }
def ExprWordsCardSaid : Prop := Claim7.holds Tryd.pinned (.plain (OpenSpec.ofChange exprWordsSpec)) exprWordsCard

/-- THE TIED CARD OF 'lemmalaw03.ExprBack'. -/
def exprBackCard : Claim7 := { stood := { row := exprBackRow, standIns := [], harness := (true, "dbf98fe4043b39d0ac50043cf3685d0eadb2abb7acf225499ff45ab5cd9e0157"), looks := false }, kinds := [], alts := [], laidByText := true, laidKinds := [.data, .data, .data, .data], laidTests := true, laidLooks := .later }
def ExprBackCardSaid : Prop := Claim7.holds Tryd.pinned (.plain (OpenSpec.ofChange exprBackSpec)) exprBackCard

/-- THE SECOND FORM's CARD OF 'lemmalaw02.SymScopes'. -/
def symScopesUptoCard : Claim7 := { stood := { row := symScopesUptoRow, standIns := [], harness := (true, "dbf98fe4043b39d0ac50043cf3685d0eadb2abb7acf225499ff45ab5cd9e0157"), looks := false }, kinds := [], alts := [], laidByText := true, laidKinds := [.data], laidTests := true, laidLooks := .later }
def SymScopesUptoCardSaid : Prop := Claim7.holds Tryd.pinned (.plain (OpenSpec.upto symScopesSpec)) symScopesUptoCard

/-- THE SECOND FORM's CARD OF 'lemmalaw02.SymForever'. -/
def symForeverUptoCard : Claim7 := { stood := { row := symForeverUptoRow, standIns := [], harness := (true, "dbf98fe4043b39d0ac50043cf3685d0eadb2abb7acf225499ff45ab5cd9e0157"), looks := false }, kinds := [], alts := [], laidByText := true, laidKinds := [.data], laidTests := true, laidLooks := .later }
def SymForeverUptoCardSaid : Prop := Claim7.holds Tryd.pinned (.plain (OpenSpec.upto symForeverSpec)) symForeverUptoCard

/-- THE SECOND FORM's CARD OF 'lemmalaw02.SymLabels'. -/
def symLabelsUptoCard : Claim7 := { stood := { row := symLabelsUptoRow, standIns := [], harness := (true, "dbf98fe4043b39d0ac50043cf3685d0eadb2abb7acf225499ff45ab5cd9e0157"), looks := false }, kinds := [], alts := [], laidByText := true, laidKinds := [.data], laidTests := true, laidLooks := .later }
def SymLabelsUptoCardSaid : Prop := Claim7.holds Tryd.pinned (.plain (OpenSpec.upto symLabelsSpec)) symLabelsUptoCard

/-- THE SECOND FORM's CARD OF 'lemmalaw02.SymMemory'. -/
def symMemoryUptoCard : Claim7 := { stood := { row := symMemoryUptoRow, standIns := [], harness := (true, "dbf98fe4043b39d0ac50043cf3685d0eadb2abb7acf225499ff45ab5cd9e0157"), looks := false }, kinds := [], alts := [], laidByText := true, laidKinds := [.data], laidTests := true, laidLooks := .later }
def SymMemoryUptoCardSaid : Prop := Claim7.holds Tryd.pinned (.plain (OpenSpec.upto symMemorySpec)) symMemoryUptoCard

/-- THE SECOND FORM's CARD OF 'lemmalaw02.SymFinds'. -/
def symFindsUptoCard : Claim7 := { stood := { row := symFindsUptoRow, standIns := [], harness := (true, "dbf98fe4043b39d0ac50043cf3685d0eadb2abb7acf225499ff45ab5cd9e0157"), looks := false }, kinds := [], alts := [], laidByText := true, laidKinds := [.data], laidTests := true, laidLooks := .later }
def SymFindsUptoCardSaid : Prop := Claim7.holds Tryd.pinned (.plain (OpenSpec.upto symFindsSpec)) symFindsUptoCard

/-- THE SECOND FORM's CARD OF 'lemmalaw02.SymFull'. -/
def symFullUptoCard : Claim7 := { stood := { row := symFullUptoRow, standIns := [], harness := (true, "dbf98fe4043b39d0ac50043cf3685d0eadb2abb7acf225499ff45ab5cd9e0157"), looks := false }, kinds := [], alts := [], laidByText := true, laidKinds := [.data], laidTests := true, laidLooks := .later }
def SymFullUptoCardSaid : Prop := Claim7.holds Tryd.pinned (.plain (OpenSpec.upto symFullSpec)) symFullUptoCard

/-- THE SECOND FORM's CARD OF 'lemmalaw02.SymPlays'. -/
def symPlaysUptoCard : Claim7 := { stood := { row := symPlaysUptoRow, standIns := [], harness := (true, "dbf98fe4043b39d0ac50043cf3685d0eadb2abb7acf225499ff45ab5cd9e0157"), looks := false }, kinds := [], alts := [], laidByText := true, laidKinds := [.data], laidTests := true, laidLooks := .later }
def SymPlaysUptoCardSaid : Prop := Claim7.holds Tryd.pinned (.plain (OpenSpec.upto symPlaysSpec)) symPlaysUptoCard

/-- THE SECOND FORM's CARD OF 'lemmalaw03.ExprKeeps'. -/
def exprKeepsUptoCard : Claim7 := { stood := { row := exprKeepsUptoRow, standIns := [], harness := (true, "dbf98fe4043b39d0ac50043cf3685d0eadb2abb7acf225499ff45ab5cd9e0157"), looks := false }, kinds := [], alts := [], laidByText := true, laidKinds := [.data], laidTests := true, laidLooks := .later }
def ExprKeepsUptoCardSaid : Prop := Claim7.holds Tryd.pinned (.plain (OpenSpec.upto exprKeepsSpec)) exprKeepsUptoCard

/-- THE SECOND FORM's CARD OF 'lemmalaw03.ExprWords'. -/
def exprWordsUptoCard : Claim7 := { stood := { row := exprWordsUptoRow, standIns := [], harness := (true, "dbf98fe4043b39d0ac50043cf3685d0eadb2abb7acf225499ff45ab5cd9e0157"), looks := false }, kinds := [], alts := [], laidByText := true, laidKinds := [.data, .data, .data, .data], laidTests := true, laidLooks := .later }
def ExprWordsUptoCardSaid : Prop := Claim7.holds Tryd.pinned (.plain (OpenSpec.upto exprWordsSpec)) exprWordsUptoCard

/-- THE SECOND FORM's CARD OF 'lemmalaw03.ExprBack'. -/
def exprBackUptoCard : Claim7 := { stood := { row := exprBackUptoRow, standIns := [], harness := (true, "dbf98fe4043b39d0ac50043cf3685d0eadb2abb7acf225499ff45ab5cd9e0157"), looks := false }, kinds := [], alts := [], laidByText := true, laidKinds := [.data, .data, .data, .data], laidTests := true, laidLooks := .later }
def ExprBackUptoCardSaid : Prop := Claim7.holds Tryd.pinned (.plain (OpenSpec.upto exprBackSpec)) exprBackUptoCard
end Rows
end Go.Proofs.YtpoojimmponklaaDoor
