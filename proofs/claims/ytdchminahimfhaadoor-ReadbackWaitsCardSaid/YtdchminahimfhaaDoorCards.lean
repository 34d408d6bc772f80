/-
  DERIVED. GIVEN WITH THE SEED: THE CARDS: each row of YtdchminahimfhaaDoorRows.lean that lists a variable, with what it lists TIED to the program's text (the seventh form; the later family's looks); each row that meets fmt, with fmt's text TOLD by the authors' own Lean function (tested against real Go, not proved from fmt's source: count such statements apart). THE CARD IS WHAT COUNTS. Prove the row's statement (the work); the ties are given (YtdchminahimfhaaDoorTie.lean); close each card by the builder's one call (the guide's Derived/Test/ToyasCard.lean, 'card_holds'). Laid BY PROGRAM, IN A SANDBOX (cutbox-door.mjs). By AI agents, Wed Nov 11 2026. No macro, syntax, notation, axiom, sorry.
-/
import Derived.Test.YtdchminahimfhaaDoorRows
import GoSem.ClaimSeven
namespace Go.Proofs.YtdchminahimfhaaDoor
namespace Rows

/-- THE TIED CARD OF 'skywaykeep3.ReadbackCloses'. -/
def readbackClosesCard : Claim7 := { stood := { row := readbackClosesRow, standIns := [], harness := (true, "457728bdbbe8fec676b2f53492371da4ae36a93653a3b270667bc90fe0e53fc5"), looks := false }, kinds := [], alts := [], laidByText := true, laidKinds := [.data, .data], laidTests := true, laidLooks := .later }
def ReadbackClosesCardSaid : Prop := Claim7.holds Tryd.pinned (.plain (OpenSpec.ofChange readbackClosesSpec)) readbackClosesCard

/-- THE TIED CARD OF 'skywaykeep3.ReadbackWaits'. -/
def readbackWaitsCard : Claim7 := { stood := { row := readbackWaitsRow, standIns := [], harness := (true, "457728bdbbe8fec676b2f53492371da4ae36a93653a3b270667bc90fe0e53fc5"), looks := false }, kinds := [], alts := [], laidByText := true, laidKinds := [.data, .data], laidTests := true, laidLooks := .later }
def ReadbackWaitsCardSaid : Prop := Claim7.holds Tryd.pinned (.plain (OpenSpec.ofChange readbackWaitsSpec)) readbackWaitsCard

/-- THE SECOND FORM's CARD OF 'skywaykeep3.ReadbackCloses'. -/
def readbackClosesUptoCard : Claim7 := { stood := { row := readbackClosesUptoRow, standIns := [], harness := (true, "457728bdbbe8fec676b2f53492371da4ae36a93653a3b270667bc90fe0e53fc5"), looks := false }, kinds := [], alts := [], laidByText := true, laidKinds := [.data, .data], laidTests := true, laidLooks := .later }
def ReadbackClosesUptoCardSaid : Prop := Claim7.holds Tryd.pinned (.plain (OpenSpec.upto readbackClosesSpec)) readbackClosesUptoCard

/-- THE SECOND FORM's CARD OF 'skywaykeep3.ReadbackWaits'. -/
def readbackWaitsUptoCard : Claim7 := { stood := { row := readbackWaitsUptoRow, standIns := [], harness := (true, "457728bdbbe8fec676b2f53492371da4ae36a93653a3b270667bc90fe0e53fc5"), looks := false }, kinds := [], alts := [], laidByText := true, laidKinds := [.data, .data], laidTests := true, laidLooks := .later }
def ReadbackWaitsUptoCardSaid : Prop := Claim7.holds Tryd.pinned (.plain (OpenSpec.upto readbackWaitsSpec)) readbackWaitsUptoCard
end Rows
end Go.Proofs.YtdchminahimfhaaDoor
