/-
  No cell of these rows narrows 'for every input' (looked for: loops, veiled, ifaces, maps, wideKeys, modest, calm, conditions, laid).
  DERIVED. THE GIVEN ROWS OF THIS SEAT. 12 by the template 'for every input the law returns true; each argument reads behind the call as it read before'; 0 by the template 'total and deterministic' (their statements: YtjppjbgpeiaobaaTotals.lean).
  GIVEN WITH THE SEED: the statements are not yours to turn. If you find one false, say at which input.
  Laid BY PROGRAM, IN A SANDBOX (cutbox-rows.mjs): the forced cells as the released guide's own fill.sh prints them over the translation d55d12870caa6b64… (all of the seat's roots in one cut). By AI agents, Wed Nov 11 2026. No macro, syntax, notation, axiom, sorry.
-/
import Derived.Test.YtjppjbgpeiaobaaChecked
import GoSem.Claim
import GoSem.ClaimJoined
import GoSem.ClaimMapViews
import Derived.JoinedTies
import Derived.KernelRfl
namespace Go.Proofs.Ytjppjbgpeiaobaa
/- THE CELL 'sum', in the pinned program and in every row, IS THE sha256 OF THE DUMP (.gsa) THAT YtjppjbgpeiaobaaProg.lean LOADS. Nothing in Lean hashes anything: it is a label: what it is worth is what the hold of that sum in a sandbox is worth. -/
noncomputable def Try.pinned : Pinned := { name := "ytjppjbgpeiaobaa", sum := "d55d12870caa6b64cf6da746123c0c476584c9406ce376eb0acc7683caa41719", checked := Try.checked }
namespace Rows
def none {H : Type} : Left H := { results := [], args := [] }

/-- 'skywaykeep3.OwnerShares': WHATEVER THE INPUT: true; the input reads as it did. -/
def ownerSharesSpec : ChangeSpec := { name := "ownerShares", fn := fun _ => fun
  | [d] => { results := [.lit (.bool true)], args := [d] }
  | _ => none }
def ownerSharesRow : OpenClaim := { program := "ytjppjbgpeiaobaa", sum := "d55d12870caa6b64cf6da746123c0c476584c9406ce376eb0acc7683caa41719", func := "skyway/skywaykeep3.OwnerShares", spec := "ownerShares", inPlace := ["internal/bytealg.abigen_runtime_cmpstring", "slices.overlaps[skyway/api.OwnerEntry]"], unfollowed := true, recurses := true, apart := false }
def OwnerSharesSaid : Prop := ownerSharesRow.holds Try.pinned (OpenSpec.ofChange ownerSharesSpec)

/-- ITS FALSE NEIGHBOUR: 'it returns false'. Refute it at one input. -/
def ownerSharesWrong : ChangeSpec := { name := "ownerShares", fn := fun _ => fun
  | [d] => { results := [.lit (.bool false)], args := [d] }
  | _ => none }
def OwnerSharesWrongFalsely : Prop := ownerSharesRow.holds Try.pinned (OpenSpec.ofChange ownerSharesWrong)

/-- 'skywaykeep3.RunwayTurns': WHATEVER THE INPUT: true; the input reads as it did. -/
def runwayTurnsSpec : ChangeSpec := { name := "runwayTurns", fn := fun _ => fun
  | [d1, d2, d3, d4] => { results := [.lit (.bool true)], args := [d1, d2, d3, d4] }
  | _ => none }
def runwayTurnsRow : OpenClaim := { program := "ytjppjbgpeiaobaa", sum := "d55d12870caa6b64cf6da746123c0c476584c9406ce376eb0acc7683caa41719", func := "skyway/skywaykeep3.RunwayTurns", spec := "runwayTurns", inPlace := ["slices.overlaps[skyway/api.RunwayMove]"], apart := false }
def RunwayTurnsSaid : Prop := runwayTurnsRow.holds Try.pinned (OpenSpec.ofChange runwayTurnsSpec)

/-- ITS FALSE NEIGHBOUR: 'it returns false'. Refute it at one input. -/
def runwayTurnsWrong : ChangeSpec := { name := "runwayTurns", fn := fun _ => fun
  | [d1, d2, d3, d4] => { results := [.lit (.bool false)], args := [d1, d2, d3, d4] }
  | _ => none }
def RunwayTurnsWrongFalsely : Prop := runwayTurnsRow.holds Try.pinned (OpenSpec.ofChange runwayTurnsWrong)

/-- 'skywaykeep3.RunwayStays': WHATEVER THE INPUT: true; the input reads as it did. -/
def runwayStaysSpec : ChangeSpec := { name := "runwayStays", fn := fun _ => fun
  | [d1, d2, d3, d4] => { results := [.lit (.bool true)], args := [d1, d2, d3, d4] }
  | _ => none }
def runwayStaysRow : OpenClaim := { program := "ytjppjbgpeiaobaa", sum := "d55d12870caa6b64cf6da746123c0c476584c9406ce376eb0acc7683caa41719", func := "skyway/skywaykeep3.RunwayStays", spec := "runwayStays", inPlace := ["slices.overlaps[skyway/api.RunwayMove]"], apart := false }
def RunwayStaysSaid : Prop := runwayStaysRow.holds Try.pinned (OpenSpec.ofChange runwayStaysSpec)

/-- ITS FALSE NEIGHBOUR: 'it returns false'. Refute it at one input. -/
def runwayStaysWrong : ChangeSpec := { name := "runwayStays", fn := fun _ => fun
  | [d1, d2, d3, d4] => { results := [.lit (.bool false)], args := [d1, d2, d3, d4] }
  | _ => none }
def RunwayStaysWrongFalsely : Prop := runwayStaysRow.holds Try.pinned (OpenSpec.ofChange runwayStaysWrong)

/-- 'skywaykeep3.RunwayKeeps': WHATEVER THE INPUT: true; the input reads as it did. -/
def runwayKeepsSpec : ChangeSpec := { name := "runwayKeeps", fn := fun _ => fun
  | [d1, d2, d3, d4] => { results := [.lit (.bool true)], args := [d1, d2, d3, d4] }
  | _ => none }
def runwayKeepsRow : OpenClaim := { program := "ytjppjbgpeiaobaa", sum := "d55d12870caa6b64cf6da746123c0c476584c9406ce376eb0acc7683caa41719", func := "skyway/skywaykeep3.RunwayKeeps", spec := "runwayKeeps", inPlace := ["slices.overlaps[skyway/api.RunwayMove]"], unfollowed := true, recurses := true, apart := false }
def RunwayKeepsSaid : Prop := runwayKeepsRow.holds Try.pinned (OpenSpec.ofChange runwayKeepsSpec)

/-- ITS FALSE NEIGHBOUR: 'it returns false'. Refute it at one input. -/
def runwayKeepsWrong : ChangeSpec := { name := "runwayKeeps", fn := fun _ => fun
  | [d1, d2, d3, d4] => { results := [.lit (.bool false)], args := [d1, d2, d3, d4] }
  | _ => none }
def RunwayKeepsWrongFalsely : Prop := runwayKeepsRow.holds Try.pinned (OpenSpec.ofChange runwayKeepsWrong)

/-- 'skywaykeep3.JointEither': WHATEVER THE INPUT: true; the input reads as it did. -/
def jointEitherSpec : ChangeSpec := { name := "jointEither", fn := fun _ => fun
  | [d1, d2] => { results := [.lit (.bool true)], args := [d1, d2] }
  | _ => none }
def jointEitherRow : OpenClaim := { program := "ytjppjbgpeiaobaa", sum := "d55d12870caa6b64cf6da746123c0c476584c9406ce376eb0acc7683caa41719", func := "skyway/skywaykeep3.JointEither", spec := "jointEither", inPlace := ["math.sqrt"], recurses := true, apart := false }
def JointEitherSaid : Prop := jointEitherRow.holds Try.pinned (OpenSpec.ofChange jointEitherSpec)

/-- ITS FALSE NEIGHBOUR: 'it returns false'. Refute it at one input. -/
def jointEitherWrong : ChangeSpec := { name := "jointEither", fn := fun _ => fun
  | [d1, d2] => { results := [.lit (.bool false)], args := [d1, d2] }
  | _ => none }
def JointEitherWrongFalsely : Prop := jointEitherRow.holds Try.pinned (OpenSpec.ofChange jointEitherWrong)

/-- 'skywaykeep3.JointMore': WHATEVER THE INPUT: true; the input reads as it did. -/
def jointMoreSpec : ChangeSpec := { name := "jointMore", fn := fun _ => fun
  | [d1, d2, d3, d4] => { results := [.lit (.bool true)], args := [d1, d2, d3, d4] }
  | _ => none }
def jointMoreRow : OpenClaim := { program := "ytjppjbgpeiaobaa", sum := "d55d12870caa6b64cf6da746123c0c476584c9406ce376eb0acc7683caa41719", func := "skyway/skywaykeep3.JointMore", spec := "jointMore", inPlace := ["math.sqrt"], recurses := true, apart := false }
def JointMoreSaid : Prop := jointMoreRow.holds Try.pinned (OpenSpec.ofChange jointMoreSpec)

/-- ITS FALSE NEIGHBOUR: 'it returns false'. Refute it at one input. -/
def jointMoreWrong : ChangeSpec := { name := "jointMore", fn := fun _ => fun
  | [d1, d2, d3, d4] => { results := [.lit (.bool false)], args := [d1, d2, d3, d4] }
  | _ => none }
def JointMoreWrongFalsely : Prop := jointMoreRow.holds Try.pinned (OpenSpec.ofChange jointMoreWrong)

/-- 'skywaykeep3.SectorVisits': WHATEVER THE INPUT: true; the input reads as it did. -/
def sectorVisitsSpec : ChangeSpec := { name := "sectorVisits", fn := fun _ => fun
  | [d1, d2] => { results := [.lit (.bool true)], args := [d1, d2] }
  | _ => none }
def sectorVisitsRow : OpenClaim := { program := "ytjppjbgpeiaobaa", sum := "d55d12870caa6b64cf6da746123c0c476584c9406ce376eb0acc7683caa41719", func := "skyway/skywaykeep3.SectorVisits", spec := "sectorVisits", unfollowed := true, recurses := true, apart := false }
def SectorVisitsSaid : Prop := sectorVisitsRow.holds Try.pinned (OpenSpec.ofChange sectorVisitsSpec)

/-- ITS FALSE NEIGHBOUR: 'it returns false'. Refute it at one input. -/
def sectorVisitsWrong : ChangeSpec := { name := "sectorVisits", fn := fun _ => fun
  | [d1, d2] => { results := [.lit (.bool false)], args := [d1, d2] }
  | _ => none }
def SectorVisitsWrongFalsely : Prop := sectorVisitsRow.holds Try.pinned (OpenSpec.ofChange sectorVisitsWrong)

/-- 'skywaykeep3.SectorCovers': WHATEVER THE INPUT: true; the input reads as it did. -/
def sectorCoversSpec : ChangeSpec := { name := "sectorCovers", fn := fun _ => fun
  | [d1, d2, d3, d4] => { results := [.lit (.bool true)], args := [d1, d2, d3, d4] }
  | _ => none }
def sectorCoversRow : OpenClaim := { program := "ytjppjbgpeiaobaa", sum := "d55d12870caa6b64cf6da746123c0c476584c9406ce376eb0acc7683caa41719", func := "skyway/skywaykeep3.SectorCovers", spec := "sectorCovers", unfollowed := true, recurses := true, apart := false }
def SectorCoversSaid : Prop := sectorCoversRow.holds Try.pinned (OpenSpec.ofChange sectorCoversSpec)

/-- ITS FALSE NEIGHBOUR: 'it returns false'. Refute it at one input. -/
def sectorCoversWrong : ChangeSpec := { name := "sectorCovers", fn := fun _ => fun
  | [d1, d2, d3, d4] => { results := [.lit (.bool false)], args := [d1, d2, d3, d4] }
  | _ => none }
def SectorCoversWrongFalsely : Prop := sectorCoversRow.holds Try.pinned (OpenSpec.ofChange sectorCoversWrong)

/-- 'skywaykeep3.SectorShifts': WHATEVER THE INPUT: true; the input reads as it did. -/
def sectorShiftsSpec : ChangeSpec := { name := "sectorShifts", fn := fun _ => fun
  | [d1, d2, d3] => { results := [.lit (.bool true)], args := [d1, d2, d3] }
  | _ => none }
def sectorShiftsRow : OpenClaim := { program := "ytjppjbgpeiaobaa", sum := "d55d12870caa6b64cf6da746123c0c476584c9406ce376eb0acc7683caa41719", func := "skyway/skywaykeep3.SectorShifts", spec := "sectorShifts", unfollowed := true, recurses := true, apart := false }
def SectorShiftsSaid : Prop := sectorShiftsRow.holds Try.pinned (OpenSpec.ofChange sectorShiftsSpec)

/-- ITS FALSE NEIGHBOUR: 'it returns false'. Refute it at one input. -/
def sectorShiftsWrong : ChangeSpec := { name := "sectorShifts", fn := fun _ => fun
  | [d1, d2, d3] => { results := [.lit (.bool false)], args := [d1, d2, d3] }
  | _ => none }
def SectorShiftsWrongFalsely : Prop := sectorShiftsRow.holds Try.pinned (OpenSpec.ofChange sectorShiftsWrong)

/-- 'skywaykeep3.SectorShares': WHATEVER THE INPUT: true; the input reads as it did. -/
def sectorSharesSpec : ChangeSpec := { name := "sectorShares", fn := fun _ => fun
  | [d1, d2, d3] => { results := [.lit (.bool true)], args := [d1, d2, d3] }
  | _ => none }
def sectorSharesRow : OpenClaim := { program := "ytjppjbgpeiaobaa", sum := "d55d12870caa6b64cf6da746123c0c476584c9406ce376eb0acc7683caa41719", func := "skyway/skywaykeep3.SectorShares", spec := "sectorShares", unfollowed := true, recurses := true, apart := false }
def SectorSharesSaid : Prop := sectorSharesRow.holds Try.pinned (OpenSpec.ofChange sectorSharesSpec)

/-- ITS FALSE NEIGHBOUR: 'it returns false'. Refute it at one input. -/
def sectorSharesWrong : ChangeSpec := { name := "sectorShares", fn := fun _ => fun
  | [d1, d2, d3] => { results := [.lit (.bool false)], args := [d1, d2, d3] }
  | _ => none }
def SectorSharesWrongFalsely : Prop := sectorSharesRow.holds Try.pinned (OpenSpec.ofChange sectorSharesWrong)

/-- 'skywaykeep3.TaxiOrders': WHATEVER THE INPUT: true; the input reads as it did. -/
def taxiOrdersSpec : ChangeSpec := { name := "taxiOrders", fn := fun _ => fun
  | [d1, d2, d3, d4] => { results := [.lit (.bool true)], args := [d1, d2, d3, d4] }
  | _ => none }
def taxiOrdersRow : OpenClaim := { program := "ytjppjbgpeiaobaa", sum := "d55d12870caa6b64cf6da746123c0c476584c9406ce376eb0acc7683caa41719", func := "skyway/skywaykeep3.TaxiOrders", spec := "taxiOrders", unfollowed := true, recurses := true, apart := false }
def TaxiOrdersSaid : Prop := taxiOrdersRow.holds Try.pinned (OpenSpec.ofChange taxiOrdersSpec)

/-- ITS FALSE NEIGHBOUR: 'it returns false'. Refute it at one input. -/
def taxiOrdersWrong : ChangeSpec := { name := "taxiOrders", fn := fun _ => fun
  | [d1, d2, d3, d4] => { results := [.lit (.bool false)], args := [d1, d2, d3, d4] }
  | _ => none }
def TaxiOrdersWrongFalsely : Prop := taxiOrdersRow.holds Try.pinned (OpenSpec.ofChange taxiOrdersWrong)

/-- 'skywaykeep3.TaxiFrees': WHATEVER THE INPUT: true; the input reads as it did. -/
def taxiFreesSpec : ChangeSpec := { name := "taxiFrees", fn := fun _ => fun
  | [d1, d2] => { results := [.lit (.bool true)], args := [d1, d2] }
  | _ => none }
def taxiFreesRow : OpenClaim := { program := "ytjppjbgpeiaobaa", sum := "d55d12870caa6b64cf6da746123c0c476584c9406ce376eb0acc7683caa41719", func := "skyway/skywaykeep3.TaxiFrees", spec := "taxiFrees", unfollowed := true, recurses := true, apart := false }
def TaxiFreesSaid : Prop := taxiFreesRow.holds Try.pinned (OpenSpec.ofChange taxiFreesSpec)

/-- ITS FALSE NEIGHBOUR: 'it returns false'. Refute it at one input. -/
def taxiFreesWrong : ChangeSpec := { name := "taxiFrees", fn := fun _ => fun
  | [d1, d2] => { results := [.lit (.bool false)], args := [d1, d2] }
  | _ => none }
def TaxiFreesWrongFalsely : Prop := taxiFreesRow.holds Try.pinned (OpenSpec.ofChange taxiFreesWrong)

/- THE SECOND FORM. 'bulk': how many values and letters a reading holds, each counted each time it is reached (what is shared counts as often as it is met; a slice's spare places count too). A statement '..UptoSaid' is the law's where the arguments, and the package variables that the reading takes, are together of bulk at most 1048576: NARROWER than '..Said'. Prove '..Said' where nothing that the law and all that it calls make is longer than what came in: it says more and counts as full. Else prove '..UptoSaid'. A law counts once. -/
mutual
def uptoBulk {H : Type} : DataW H → Nat
  | .lit (.string bytes) => bytes.length + 1
  | .lit _ => 1
  | .nil => 1
  | .ptr d => uptoBulk d + 1
  | .slice elems spare => uptoBulkAll elems + uptoBulkAll spare + 1
  | .agg parts => uptoBulkAll parts + 1
  | .iface _ d => uptoBulk d + 1
  | .map entries => uptoBulkEntries entries + 1
  | .held _ => 1
def uptoBulkAll {H : Type} : List (DataW H) → Nat
  | [] => 0
  | d :: r => uptoBulk d + uptoBulkAll r
def uptoBulkEntries {H : Type} : List (Lit × DataW H) → Nat
  | [] => 0
  | x :: r => uptoBulkEntry x + uptoBulkEntries r
def uptoBulkEntry {H : Type} : Lit × DataW H → Nat
  | (.string bytes, d) => bytes.length + uptoBulk d + 1
  | (_, d) => uptoBulk d + 1
 end
def uptoSmall : (H : Type) → List (DataW H) → Bool := fun _ ds => decide (uptoBulkAll ds ≤ 1048576)
def OpenSpec.upto (s : _root_.Go.ChangeSpec) : _root_.Go.OpenSpec := { _root_.Go.OpenSpec.ofChange s with cond := some uptoSmall }

/-- 'skywaykeep3.OwnerShares', WHERE WHAT IT READS IS OF BULK AT MOST 1048576: true; the input reads as it did. -/
def ownerSharesUptoRow : OpenClaim := { program := "ytjppjbgpeiaobaa", sum := "d55d12870caa6b64cf6da746123c0c476584c9406ce376eb0acc7683caa41719", func := "skyway/skywaykeep3.OwnerShares", spec := "ownerShares", inPlace := ["internal/bytealg.abigen_runtime_cmpstring", "slices.overlaps[skyway/api.OwnerEntry]"], unfollowed := true, recurses := true, apart := false, narrowed := true }
def OwnerSharesUptoSaid : Prop := ownerSharesUptoRow.holds Try.pinned (OpenSpec.upto ownerSharesSpec)

/-- 'skywaykeep3.RunwayTurns', WHERE WHAT IT READS IS OF BULK AT MOST 1048576: true; the input reads as it did. -/
def runwayTurnsUptoRow : OpenClaim := { program := "ytjppjbgpeiaobaa", sum := "d55d12870caa6b64cf6da746123c0c476584c9406ce376eb0acc7683caa41719", func := "skyway/skywaykeep3.RunwayTurns", spec := "runwayTurns", inPlace := ["slices.overlaps[skyway/api.RunwayMove]"], apart := false, narrowed := true }
def RunwayTurnsUptoSaid : Prop := runwayTurnsUptoRow.holds Try.pinned (OpenSpec.upto runwayTurnsSpec)

/-- 'skywaykeep3.RunwayStays', WHERE WHAT IT READS IS OF BULK AT MOST 1048576: true; the input reads as it did. -/
def runwayStaysUptoRow : OpenClaim := { program := "ytjppjbgpeiaobaa", sum := "d55d12870caa6b64cf6da746123c0c476584c9406ce376eb0acc7683caa41719", func := "skyway/skywaykeep3.RunwayStays", spec := "runwayStays", inPlace := ["slices.overlaps[skyway/api.RunwayMove]"], apart := false, narrowed := true }
def RunwayStaysUptoSaid : Prop := runwayStaysUptoRow.holds Try.pinned (OpenSpec.upto runwayStaysSpec)

/-- 'skywaykeep3.RunwayKeeps', WHERE WHAT IT READS IS OF BULK AT MOST 1048576: true; the input reads as it did. -/
def runwayKeepsUptoRow : OpenClaim := { program := "ytjppjbgpeiaobaa", sum := "d55d12870caa6b64cf6da746123c0c476584c9406ce376eb0acc7683caa41719", func := "skyway/skywaykeep3.RunwayKeeps", spec := "runwayKeeps", inPlace := ["slices.overlaps[skyway/api.RunwayMove]"], unfollowed := true, recurses := true, apart := false, narrowed := true }
def RunwayKeepsUptoSaid : Prop := runwayKeepsUptoRow.holds Try.pinned (OpenSpec.upto runwayKeepsSpec)

/-- 'skywaykeep3.JointEither', WHERE WHAT IT READS IS OF BULK AT MOST 1048576: true; the input reads as it did. -/
def jointEitherUptoRow : OpenClaim := { program := "ytjppjbgpeiaobaa", sum := "d55d12870caa6b64cf6da746123c0c476584c9406ce376eb0acc7683caa41719", func := "skyway/skywaykeep3.JointEither", spec := "jointEither", inPlace := ["math.sqrt"], recurses := true, apart := false, narrowed := true }
def JointEitherUptoSaid : Prop := jointEitherUptoRow.holds Try.pinned (OpenSpec.upto jointEitherSpec)

/-- 'skywaykeep3.JointMore', WHERE WHAT IT READS IS OF BULK AT MOST 1048576: true; the input reads as it did. -/
def jointMoreUptoRow : OpenClaim := { program := "ytjppjbgpeiaobaa", sum := "d55d12870caa6b64cf6da746123c0c476584c9406ce376eb0acc7683caa41719", func := "skyway/skywaykeep3.JointMore", spec := "jointMore", inPlace := ["math.sqrt"], recurses := true, apart := false, narrowed := true }
def JointMoreUptoSaid : Prop := jointMoreUptoRow.holds Try.pinned (OpenSpec.upto jointMoreSpec)

/-- 'skywaykeep3.SectorVisits', WHERE WHAT IT READS IS OF BULK AT MOST 1048576: true; the input reads as it did. -/
def sectorVisitsUptoRow : OpenClaim := { program := "ytjppjbgpeiaobaa", sum := "d55d12870caa6b64cf6da746123c0c476584c9406ce376eb0acc7683caa41719", func := "skyway/skywaykeep3.SectorVisits", spec := "sectorVisits", unfollowed := true, recurses := true, apart := false, narrowed := true }
def SectorVisitsUptoSaid : Prop := sectorVisitsUptoRow.holds Try.pinned (OpenSpec.upto sectorVisitsSpec)

/-- 'skywaykeep3.SectorCovers', WHERE WHAT IT READS IS OF BULK AT MOST 1048576: true; the input reads as it did. -/
def sectorCoversUptoRow : OpenClaim := { program := "ytjppjbgpeiaobaa", sum := "d55d12870caa6b64cf6da746123c0c476584c9406ce376eb0acc7683caa41719", func := "skyway/skywaykeep3.SectorCovers", spec := "sectorCovers", unfollowed := true, recurses := true, apart := false, narrowed := true }
def SectorCoversUptoSaid : Prop := sectorCoversUptoRow.holds Try.pinned (OpenSpec.upto sectorCoversSpec)

/-- 'skywaykeep3.SectorShifts', WHERE WHAT IT READS IS OF BULK AT MOST 1048576: true; the input reads as it did. -/
def sectorShiftsUptoRow : OpenClaim := { program := "ytjppjbgpeiaobaa", sum := "d55d12870caa6b64cf6da746123c0c476584c9406ce376eb0acc7683caa41719", func := "skyway/skywaykeep3.SectorShifts", spec := "sectorShifts", unfollowed := true, recurses := true, apart := false, narrowed := true }
def SectorShiftsUptoSaid : Prop := sectorShiftsUptoRow.holds Try.pinned (OpenSpec.upto sectorShiftsSpec)

/-- 'skywaykeep3.SectorShares', WHERE WHAT IT READS IS OF BULK AT MOST 1048576: true; the input reads as it did. -/
def sectorSharesUptoRow : OpenClaim := { program := "ytjppjbgpeiaobaa", sum := "d55d12870caa6b64cf6da746123c0c476584c9406ce376eb0acc7683caa41719", func := "skyway/skywaykeep3.SectorShares", spec := "sectorShares", unfollowed := true, recurses := true, apart := false, narrowed := true }
def SectorSharesUptoSaid : Prop := sectorSharesUptoRow.holds Try.pinned (OpenSpec.upto sectorSharesSpec)

/-- 'skywaykeep3.TaxiOrders', WHERE WHAT IT READS IS OF BULK AT MOST 1048576: true; the input reads as it did. -/
def taxiOrdersUptoRow : OpenClaim := { program := "ytjppjbgpeiaobaa", sum := "d55d12870caa6b64cf6da746123c0c476584c9406ce376eb0acc7683caa41719", func := "skyway/skywaykeep3.TaxiOrders", spec := "taxiOrders", unfollowed := true, recurses := true, apart := false, narrowed := true }
def TaxiOrdersUptoSaid : Prop := taxiOrdersUptoRow.holds Try.pinned (OpenSpec.upto taxiOrdersSpec)

/-- 'skywaykeep3.TaxiFrees', WHERE WHAT IT READS IS OF BULK AT MOST 1048576: true; the input reads as it did. -/
def taxiFreesUptoRow : OpenClaim := { program := "ytjppjbgpeiaobaa", sum := "d55d12870caa6b64cf6da746123c0c476584c9406ce376eb0acc7683caa41719", func := "skyway/skywaykeep3.TaxiFrees", spec := "taxiFrees", unfollowed := true, recurses := true, apart := false, narrowed := true }
def TaxiFreesUptoSaid : Prop := taxiFreesUptoRow.holds Try.pinned (OpenSpec.upto taxiFreesSpec)

end Rows
end Go.Proofs.Ytjppjbgpeiaobaa
