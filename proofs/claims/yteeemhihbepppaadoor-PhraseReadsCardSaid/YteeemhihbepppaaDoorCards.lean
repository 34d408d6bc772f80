/-
  DERIVED. GIVEN WITH THE SEED: THE CARDS: each row of YteeemhihbepppaaDoorRows.lean that lists a variable, with what it lists TIED to the program's text (the seventh form; the later family's looks); each row that meets fmt, with fmt's text TOLD by the authors' own Lean function (tested against real Go, not proved from fmt's source: count such statements apart). THE CARD IS WHAT COUNTS. Prove the row's statement (the work); the ties are given (YteeemhihbepppaaDoorTie.lean); close each card by the builder's one call (the guide's Derived/Test/ToyasCard.lean, 'card_holds'). Laid BY PROGRAM, IN A SANDBOX (cutbox-door.mjs). By AI agents, Wed Nov 11 2026. No macro, syntax, notation, axiom, sorry.
-/
import Derived.Test.YteeemhihbepppaaDoorRows
import GoSem.ClaimSeven
namespace Go.Proofs.YteeemhihbepppaaDoor
namespace Rows

/-- THE TIED CARD OF 'skywaykeep3.PhraseBacks'. -/
def phraseBacksCard : Claim7 := { stood := { row := phraseBacksRow, standIns := [], harness := (true, "fc048d7f630426940ff07d393f4032970eaf3ecf47b9425281f03b315328b5b7"), looks := true }, kinds := [], alts := [], laidByText := true, laidKinds := [.data, .data, .data, .data, .sentinel, .sentinel, .data, .data, .pinned], laidTests := true, laidLooks := .later }
def PhraseBacksCardSaid : Prop := Claim7.holds Tryd.pinned (.plain (OpenSpec.ofChange phraseBacksSpec)) phraseBacksCard

/-- THE TIED CARD OF 'skywaykeep3.PhraseReads'. -/
def phraseReadsCard : Claim7 := { stood := { row := phraseReadsRow, standIns := [], harness := (true, "fc048d7f630426940ff07d393f4032970eaf3ecf47b9425281f03b315328b5b7"), looks := true }, kinds := [], alts := [], laidByText := true, laidKinds := [.data, .data, .data, .data, .sentinel, .sentinel, .data, .data, .pinned], laidTests := true, laidLooks := .later }
def PhraseReadsCardSaid : Prop := Claim7.holds Tryd.pinned (.plain (OpenSpec.ofChange phraseReadsSpec)) phraseReadsCard

/-- THE TIED CARD OF 'skywaykeep3.ReadbackTexts'. -/
def readbackTextsCard : Claim7 := { stood := { row := readbackTextsRow, standIns := [], harness := (true, "fc048d7f630426940ff07d393f4032970eaf3ecf47b9425281f03b315328b5b7"), looks := true }, kinds := [], alts := [], laidByText := true, laidKinds := [.data, .data, .data, .data, .sentinel, .sentinel, .data, .data, .pinned], laidTests := true, laidLooks := .later }
def ReadbackTextsCardSaid : Prop := Claim7.holds Tryd.pinned (.plain (OpenSpec.ofChange readbackTextsSpec)) readbackTextsCard

/-- THE SECOND FORM's CARD OF 'skywaykeep3.PhraseBacks'. -/
def phraseBacksUptoCard : Claim7 := { stood := { row := phraseBacksUptoRow, standIns := [], harness := (true, "fc048d7f630426940ff07d393f4032970eaf3ecf47b9425281f03b315328b5b7"), looks := true }, kinds := [], alts := [], laidByText := true, laidKinds := [.data, .data, .data, .data, .sentinel, .sentinel, .data, .data, .pinned], laidTests := true, laidLooks := .later }
def PhraseBacksUptoCardSaid : Prop := Claim7.holds Tryd.pinned (.plain (OpenSpec.upto phraseBacksSpec)) phraseBacksUptoCard

/-- THE SECOND FORM's CARD OF 'skywaykeep3.PhraseReads'. -/
def phraseReadsUptoCard : Claim7 := { stood := { row := phraseReadsUptoRow, standIns := [], harness := (true, "fc048d7f630426940ff07d393f4032970eaf3ecf47b9425281f03b315328b5b7"), looks := true }, kinds := [], alts := [], laidByText := true, laidKinds := [.data, .data, .data, .data, .sentinel, .sentinel, .data, .data, .pinned], laidTests := true, laidLooks := .later }
def PhraseReadsUptoCardSaid : Prop := Claim7.holds Tryd.pinned (.plain (OpenSpec.upto phraseReadsSpec)) phraseReadsUptoCard

/-- THE SECOND FORM's CARD OF 'skywaykeep3.ReadbackTexts'. -/
def readbackTextsUptoCard : Claim7 := { stood := { row := readbackTextsUptoRow, standIns := [], harness := (true, "fc048d7f630426940ff07d393f4032970eaf3ecf47b9425281f03b315328b5b7"), looks := true }, kinds := [], alts := [], laidByText := true, laidKinds := [.data, .data, .data, .data, .sentinel, .sentinel, .data, .data, .pinned], laidTests := true, laidLooks := .later }
def ReadbackTextsUptoCardSaid : Prop := Claim7.holds Tryd.pinned (.plain (OpenSpec.upto readbackTextsSpec)) readbackTextsUptoCard
end Rows
end Go.Proofs.YteeemhihbepppaaDoor
