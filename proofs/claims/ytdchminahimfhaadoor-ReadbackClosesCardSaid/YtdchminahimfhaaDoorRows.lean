/-
  NARROWER THAN 'FOR EVERY INPUT', by the rows' own cells (each row's printed sentence says how): ReadbackCloses: laid · ReadbackWaits: laid.
  DERIVED. THE GIVEN ROWS OF THIS SEAT. 2 by the template 'for every input the law returns true; each argument reads behind the call as it read before'; 0 by the template 'total and deterministic' (their statements: YtdchminahimfhaaDoorTotals.lean).
  GIVEN WITH THE SEED: the statements are not yours to turn. If you find one false, say at which input.
  Laid BY PROGRAM, IN A SANDBOX (cutbox-rows.mjs): the forced cells as the released guide's own fill.sh prints them over the translation 0b0a3436d32a8e06… (all of the seat's roots in one cut). By AI agents, Wed Nov 11 2026. No macro, syntax, notation, axiom, sorry.
-/
import Derived.Test.YtdchminahimfhaaDoorChecked
import GoSem.Claim
import GoSem.ClaimJoined
import GoSem.ClaimMapViews
import Derived.JoinedTies
import Derived.KernelRfl
namespace Go.Proofs.YtdchminahimfhaaDoor
/- THE CELL 'sum', in the pinned program and in every row, IS THE sha256 OF THE DUMP (.gsa) THAT YtdchminahimfhaaDoorProg.lean LOADS. Nothing in Lean hashes anything: it is a label: what it is worth is what the hold of that sum in a sandbox is worth. -/
noncomputable def Tryd.pinned : Pinned := { name := "ytdchminahimfhaadoor", sum := "0b0a3436d32a8e06c8b55782db8f0caa43891f0763e5ceeb683000093121b949", checked := Tryd.checked }
namespace Rows
def none {H : Type} : Left H := { results := [], args := [] }

/- WHAT THE LISTED PACKAGE-LEVEL VARIABLES READ AS WHEN THE CALL BEGINS. Each datum BY PROGRAM (the guide's laid-datum.mjs) off the statement by which the dump's own 'gosem.cut.vars' lays the variable. In a bare row this is a premise. The card (YtdchminahimfhaaDoorCards.lean) ties it to the program's text. -/
def laid_skyway_phrase_words {H : Type} : DataW H := .agg [.lit (.string [72, 69, 73, 71, 72, 84]), .lit (.string [72, 69, 65, 68, 73, 78, 71]), .lit (.string [83, 80, 69, 69, 68]), .lit (.string [68, 73, 82, 69, 67, 84]), .lit (.string [72, 79, 76, 68]), .lit (.string [67, 79, 78, 84, 65, 67, 84]), .lit (.string [76, 65, 78, 68])]
def laid_skyway_phrase_most {H : Type} : DataW H := .agg [.lit (.int .i64 60000), .lit (.int .i64 4095), .lit (.int .i64 400)]

/-- 'skywaykeep3.ReadbackCloses': WHATEVER THE INPUT: true; the input reads as it did. -/
def readbackClosesSpec : ChangeSpec := { name := "readbackCloses", fn := fun _ => fun
  | [d1, d2, d3, d4] => { results := [.lit (.bool true)], args := [d1, d2, d3, d4] }
  | _ => none }
def readbackClosesRow : OpenClaim := { program := "ytdchminahimfhaadoor", sum := "0b0a3436d32a8e06c8b55782db8f0caa43891f0763e5ceeb683000093121b949", func := "skyway/skywaykeep3.ReadbackCloses", spec := "readbackCloses", unfollowed := true, recurses := true, named := ["skyway/phrase.most", "skyway/phrase.words"], apart := false, laid := [("skyway/phrase.words", laid_skyway_phrase_words), ("skyway/phrase.most", laid_skyway_phrase_most)] }
def ReadbackClosesSaid : Prop := readbackClosesRow.holds Tryd.pinned (OpenSpec.ofChange readbackClosesSpec)

/-- ITS FALSE NEIGHBOUR: 'it returns false'. Refute it at one input. -/
def readbackClosesWrong : ChangeSpec := { name := "readbackCloses", fn := fun _ => fun
  | [d1, d2, d3, d4] => { results := [.lit (.bool false)], args := [d1, d2, d3, d4] }
  | _ => none }
def ReadbackClosesWrongFalsely : Prop := readbackClosesRow.holds Tryd.pinned (OpenSpec.ofChange readbackClosesWrong)

/-- 'skywaykeep3.ReadbackWaits': WHATEVER THE INPUT: true; the input reads as it did. -/
def readbackWaitsSpec : ChangeSpec := { name := "readbackWaits", fn := fun _ => fun
  | [d1, d2] => { results := [.lit (.bool true)], args := [d1, d2] }
  | _ => none }
def readbackWaitsRow : OpenClaim := { program := "ytdchminahimfhaadoor", sum := "0b0a3436d32a8e06c8b55782db8f0caa43891f0763e5ceeb683000093121b949", func := "skyway/skywaykeep3.ReadbackWaits", spec := "readbackWaits", unfollowed := true, recurses := true, named := ["skyway/phrase.most", "skyway/phrase.words"], apart := false, laid := [("skyway/phrase.words", laid_skyway_phrase_words), ("skyway/phrase.most", laid_skyway_phrase_most)] }
def ReadbackWaitsSaid : Prop := readbackWaitsRow.holds Tryd.pinned (OpenSpec.ofChange readbackWaitsSpec)

/-- ITS FALSE NEIGHBOUR: 'it returns false'. Refute it at one input. -/
def readbackWaitsWrong : ChangeSpec := { name := "readbackWaits", fn := fun _ => fun
  | [d1, d2] => { results := [.lit (.bool false)], args := [d1, d2] }
  | _ => none }
def ReadbackWaitsWrongFalsely : Prop := readbackWaitsRow.holds Tryd.pinned (OpenSpec.ofChange readbackWaitsWrong)

/- THE SECOND FORM. 'bulk': how many values and letters a reading holds, each counted each time it is reached (what is shared counts as often as it is met; a slice's spare places count too). A statement '..UptoSaid' is the law's where the arguments, and the package variables that the reading takes, are together of bulk at most 1048576: NARROWER than '..Said'. Prove '..Said' where nothing that the law and all that it calls make is longer than what came in: it says more and counts as full. Else prove '..UptoSaid'. A law counts once. -/
mutual
def uptoBulk {H : Type} : DataW H → Nat
  | .lit (.string bytes) => bytes.length + 1
  | .lit _ => 1
  | .nil => 1
  | .ptr d => uptoBulk d + 1
  | .slice elems spare => uptoBulkAll elems + uptoBulkAll spare + 1
  | .agg parts => uptoBulkAll parts + 1
  | .iface _ d => uptoBulk d + 1
  | .map entries => uptoBulkEntries entries + 1
  | .held _ => 1
def uptoBulkAll {H : Type} : List (DataW H) → Nat
  | [] => 0
  | d :: r => uptoBulk d + uptoBulkAll r
def uptoBulkEntries {H : Type} : List (Lit × DataW H) → Nat
  | [] => 0
  | x :: r => uptoBulkEntry x + uptoBulkEntries r
def uptoBulkEntry {H : Type} : Lit × DataW H → Nat
  | (.string bytes, d) => bytes.length + uptoBulk d + 1
  | (_, d) => uptoBulk d + 1
 end
def uptoSmall : (H : Type) → List (DataW H) → Bool := fun _ ds => decide (uptoBulkAll ds ≤ 1048576)
def OpenSpec.upto (s : _root_.Go.ChangeSpec) : _root_.Go.OpenSpec := { _root_.Go.OpenSpec.ofChange s with cond := some uptoSmall }

/-- 'skywaykeep3.ReadbackCloses', WHERE WHAT IT READS IS OF BULK AT MOST 1048576: true; the input reads as it did. -/
def readbackClosesUptoRow : OpenClaim := { program := "ytdchminahimfhaadoor", sum := "0b0a3436d32a8e06c8b55782db8f0caa43891f0763e5ceeb683000093121b949", func := "skyway/skywaykeep3.ReadbackCloses", spec := "readbackCloses", unfollowed := true, recurses := true, named := ["skyway/phrase.most", "skyway/phrase.words"], apart := false, laid := [("skyway/phrase.words", laid_skyway_phrase_words), ("skyway/phrase.most", laid_skyway_phrase_most)], narrowed := true }
def ReadbackClosesUptoSaid : Prop := readbackClosesUptoRow.holds Tryd.pinned (OpenSpec.upto readbackClosesSpec)

/-- 'skywaykeep3.ReadbackWaits', WHERE WHAT IT READS IS OF BULK AT MOST 1048576: true; the input reads as it did. -/
def readbackWaitsUptoRow : OpenClaim := { program := "ytdchminahimfhaadoor", sum := "0b0a3436d32a8e06c8b55782db8f0caa43891f0763e5ceeb683000093121b949", func := "skyway/skywaykeep3.ReadbackWaits", spec := "readbackWaits", unfollowed := true, recurses := true, named := ["skyway/phrase.most", "skyway/phrase.words"], apart := false, laid := [("skyway/phrase.words", laid_skyway_phrase_words), ("skyway/phrase.most", laid_skyway_phrase_most)], narrowed := true }
def ReadbackWaitsUptoSaid : Prop := readbackWaitsUptoRow.holds Tryd.pinned (OpenSpec.upto readbackWaitsSpec)

end Rows
end Go.Proofs.YtdchminahimfhaaDoor
