/-
  No cell of these rows narrows 'for every input' (looked for: loops, veiled, ifaces, maps, wideKeys, modest, calm, conditions, laid).
  DERIVED. THE GIVEN ROWS OF THIS SEAT. 12 by the template 'for every input the law returns true; each argument reads behind the call as it read before'; 0 by the template 'total and deterministic' (their statements: YtdfopdlmdminbaaTotals.lean).
  GIVEN WITH THE SEED: the statements are not yours to turn. If you find one false, say at which input.
  Laid BY PROGRAM, IN A SANDBOX (cutbox-rows.mjs): the forced cells as the released guide's own fill.sh prints them over the translation 9a1ae2b56289baa8… (all of the seat's roots in one cut). By AI agents, Wed Nov 11 2026. No macro, syntax, notation, axiom, sorry.
-/
import Derived.Test.YtdfopdlmdminbaaChecked
import GoSem.Claim
import GoSem.ClaimJoined
import GoSem.ClaimMapViews
import Derived.JoinedTies
import Derived.KernelRfl
namespace Go.Proofs.Ytdfopdlmdminbaa
/- THE CELL 'sum', in the pinned program and in every row, IS THE sha256 OF THE DUMP (.gsa) THAT YtdfopdlmdminbaaProg.lean LOADS. Nothing in Lean hashes anything: it is a label: what it is worth is what the hold of that sum in a sandbox is worth. -/
noncomputable def Try.pinned : Pinned := { name := "ytdfopdlmdminbaa", sum := "9a1ae2b56289baa8f81942bc972506fc6be805befd21491cd10c59a8bffd0e6f", checked := Try.checked }
namespace Rows
def none {H : Type} : Left H := { results := [], args := [] }

/-- 'skywaykeep3.LoadSums': WHATEVER THE INPUT: true; the input reads as it did. -/
def loadSumsSpec : ChangeSpec := { name := "loadSums", fn := fun _ => fun
  | [d1, d2, d3] => { results := [.lit (.bool true)], args := [d1, d2, d3] }
  | _ => none }
def loadSumsRow : OpenClaim := { program := "ytdfopdlmdminbaa", sum := "9a1ae2b56289baa8f81942bc972506fc6be805befd21491cd10c59a8bffd0e6f", func := "skyway/skywaykeep3.LoadSums", spec := "loadSums", unfollowed := true, recurses := true, apart := false }
def LoadSumsSaid : Prop := loadSumsRow.holds Try.pinned (OpenSpec.ofChange loadSumsSpec)

/-- ITS FALSE NEIGHBOUR: 'it returns false'. Refute it at one input. -/
def loadSumsWrong : ChangeSpec := { name := "loadSums", fn := fun _ => fun
  | [d1, d2, d3] => { results := [.lit (.bool false)], args := [d1, d2, d3] }
  | _ => none }
def LoadSumsWrongFalsely : Prop := loadSumsRow.holds Try.pinned (OpenSpec.ofChange loadSumsWrong)

/-- 'skywaykeep3.LoadEnters': WHATEVER THE INPUT: true; the input reads as it did. -/
def loadEntersSpec : ChangeSpec := { name := "loadEnters", fn := fun _ => fun
  | [d1, d2] => { results := [.lit (.bool true)], args := [d1, d2] }
  | _ => none }
def loadEntersRow : OpenClaim := { program := "ytdfopdlmdminbaa", sum := "9a1ae2b56289baa8f81942bc972506fc6be805befd21491cd10c59a8bffd0e6f", func := "skyway/skywaykeep3.LoadEnters", spec := "loadEnters", unfollowed := true, recurses := true, apart := false }
def LoadEntersSaid : Prop := loadEntersRow.holds Try.pinned (OpenSpec.ofChange loadEntersSpec)

/-- ITS FALSE NEIGHBOUR: 'it returns false'. Refute it at one input. -/
def loadEntersWrong : ChangeSpec := { name := "loadEnters", fn := fun _ => fun
  | [d1, d2] => { results := [.lit (.bool false)], args := [d1, d2] }
  | _ => none }
def LoadEntersWrongFalsely : Prop := loadEntersRow.holds Try.pinned (OpenSpec.ofChange loadEntersWrong)

/-- 'skywaykeep3.LoadLimits': WHATEVER THE INPUT: true; the input reads as it did. -/
def loadLimitsSpec : ChangeSpec := { name := "loadLimits", fn := fun _ => fun
  | [d1, d2, d3] => { results := [.lit (.bool true)], args := [d1, d2, d3] }
  | _ => none }
def loadLimitsRow : OpenClaim := { program := "ytdfopdlmdminbaa", sum := "9a1ae2b56289baa8f81942bc972506fc6be805befd21491cd10c59a8bffd0e6f", func := "skyway/skywaykeep3.LoadLimits", spec := "loadLimits", unfollowed := true, recurses := true, apart := false }
def LoadLimitsSaid : Prop := loadLimitsRow.holds Try.pinned (OpenSpec.ofChange loadLimitsSpec)

/-- ITS FALSE NEIGHBOUR: 'it returns false'. Refute it at one input. -/
def loadLimitsWrong : ChangeSpec := { name := "loadLimits", fn := fun _ => fun
  | [d1, d2, d3] => { results := [.lit (.bool false)], args := [d1, d2, d3] }
  | _ => none }
def LoadLimitsWrongFalsely : Prop := loadLimitsRow.holds Try.pinned (OpenSpec.ofChange loadLimitsWrong)

/-- 'skywaykeep3.LoadAdds': WHATEVER THE INPUT: true; the input reads as it did. -/
def loadAddsSpec : ChangeSpec := { name := "loadAdds", fn := fun _ => fun
  | [d1, d2, d3, d4] => { results := [.lit (.bool true)], args := [d1, d2, d3, d4] }
  | _ => none }
def loadAddsRow : OpenClaim := { program := "ytdfopdlmdminbaa", sum := "9a1ae2b56289baa8f81942bc972506fc6be805befd21491cd10c59a8bffd0e6f", func := "skyway/skywaykeep3.LoadAdds", spec := "loadAdds", unfollowed := true, recurses := true, apart := false }
def LoadAddsSaid : Prop := loadAddsRow.holds Try.pinned (OpenSpec.ofChange loadAddsSpec)

/-- ITS FALSE NEIGHBOUR: 'it returns false'. Refute it at one input. -/
def loadAddsWrong : ChangeSpec := { name := "loadAdds", fn := fun _ => fun
  | [d1, d2, d3, d4] => { results := [.lit (.bool false)], args := [d1, d2, d3, d4] }
  | _ => none }
def LoadAddsWrongFalsely : Prop := loadAddsRow.holds Try.pinned (OpenSpec.ofChange loadAddsWrong)

/-- 'skywaykeep3.SlotEarlier': WHATEVER THE INPUT: true; the input reads as it did. -/
def slotEarlierSpec : ChangeSpec := { name := "slotEarlier", fn := fun _ => fun
  | [d1, d2, d3] => { results := [.lit (.bool true)], args := [d1, d2, d3] }
  | _ => none }
def slotEarlierRow : OpenClaim := { program := "ytdfopdlmdminbaa", sum := "9a1ae2b56289baa8f81942bc972506fc6be805befd21491cd10c59a8bffd0e6f", func := "skyway/skywaykeep3.SlotEarlier", spec := "slotEarlier", unfollowed := true, recurses := true, apart := false }
def SlotEarlierSaid : Prop := slotEarlierRow.holds Try.pinned (OpenSpec.ofChange slotEarlierSpec)

/-- ITS FALSE NEIGHBOUR: 'it returns false'. Refute it at one input. -/
def slotEarlierWrong : ChangeSpec := { name := "slotEarlier", fn := fun _ => fun
  | [d1, d2, d3] => { results := [.lit (.bool false)], args := [d1, d2, d3] }
  | _ => none }
def SlotEarlierWrongFalsely : Prop := slotEarlierRow.holds Try.pinned (OpenSpec.ofChange slotEarlierWrong)

/-- 'skywaykeep3.SlotImproves': WHATEVER THE INPUT: true; the input reads as it did. -/
def slotImprovesSpec : ChangeSpec := { name := "slotImproves", fn := fun _ => fun
  | [d1, d2, d3] => { results := [.lit (.bool true)], args := [d1, d2, d3] }
  | _ => none }
def slotImprovesRow : OpenClaim := { program := "ytdfopdlmdminbaa", sum := "9a1ae2b56289baa8f81942bc972506fc6be805befd21491cd10c59a8bffd0e6f", func := "skyway/skywaykeep3.SlotImproves", spec := "slotImproves", unfollowed := true, recurses := true, apart := false }
def SlotImprovesSaid : Prop := slotImprovesRow.holds Try.pinned (OpenSpec.ofChange slotImprovesSpec)

/-- ITS FALSE NEIGHBOUR: 'it returns false'. Refute it at one input. -/
def slotImprovesWrong : ChangeSpec := { name := "slotImproves", fn := fun _ => fun
  | [d1, d2, d3] => { results := [.lit (.bool false)], args := [d1, d2, d3] }
  | _ => none }
def SlotImprovesWrongFalsely : Prop := slotImprovesRow.holds Try.pinned (OpenSpec.ofChange slotImprovesWrong)

/-- 'skywaykeep3.SlotSwaps': WHATEVER THE INPUT: true; the input reads as it did. -/
def slotSwapsSpec : ChangeSpec := { name := "slotSwaps", fn := fun _ => fun
  | [d1, d2, d3, d4] => { results := [.lit (.bool true)], args := [d1, d2, d3, d4] }
  | _ => none }
def slotSwapsRow : OpenClaim := { program := "ytdfopdlmdminbaa", sum := "9a1ae2b56289baa8f81942bc972506fc6be805befd21491cd10c59a8bffd0e6f", func := "skyway/skywaykeep3.SlotSwaps", spec := "slotSwaps", unfollowed := true, recurses := true, apart := false }
def SlotSwapsSaid : Prop := slotSwapsRow.holds Try.pinned (OpenSpec.ofChange slotSwapsSpec)

/-- ITS FALSE NEIGHBOUR: 'it returns false'. Refute it at one input. -/
def slotSwapsWrong : ChangeSpec := { name := "slotSwaps", fn := fun _ => fun
  | [d1, d2, d3, d4] => { results := [.lit (.bool false)], args := [d1, d2, d3, d4] }
  | _ => none }
def SlotSwapsWrongFalsely : Prop := slotSwapsRow.holds Try.pinned (OpenSpec.ofChange slotSwapsWrong)

/-- 'skywaykeep3.SlotFits': WHATEVER THE INPUT: true; the input reads as it did. -/
def slotFitsSpec : ChangeSpec := { name := "slotFits", fn := fun _ => fun
  | [d1, d2] => { results := [.lit (.bool true)], args := [d1, d2] }
  | _ => none }
def slotFitsRow : OpenClaim := { program := "ytdfopdlmdminbaa", sum := "9a1ae2b56289baa8f81942bc972506fc6be805befd21491cd10c59a8bffd0e6f", func := "skyway/skywaykeep3.SlotFits", spec := "slotFits", unfollowed := true, recurses := true, apart := false }
def SlotFitsSaid : Prop := slotFitsRow.holds Try.pinned (OpenSpec.ofChange slotFitsSpec)

/-- ITS FALSE NEIGHBOUR: 'it returns false'. Refute it at one input. -/
def slotFitsWrong : ChangeSpec := { name := "slotFits", fn := fun _ => fun
  | [d1, d2] => { results := [.lit (.bool false)], args := [d1, d2] }
  | _ => none }
def SlotFitsWrongFalsely : Prop := slotFitsRow.holds Try.pinned (OpenSpec.ofChange slotFitsWrong)

/-- 'skywaykeep3.SequenceGains': WHATEVER THE INPUT: true; the input reads as it did. -/
def sequenceGainsSpec : ChangeSpec := { name := "sequenceGains", fn := fun _ => fun
  | [d1, d2, d3, d4] => { results := [.lit (.bool true)], args := [d1, d2, d3, d4] }
  | _ => none }
def sequenceGainsRow : OpenClaim := { program := "ytdfopdlmdminbaa", sum := "9a1ae2b56289baa8f81942bc972506fc6be805befd21491cd10c59a8bffd0e6f", func := "skyway/skywaykeep3.SequenceGains", spec := "sequenceGains", unfollowed := true, recurses := true, apart := false }
def SequenceGainsSaid : Prop := sequenceGainsRow.holds Try.pinned (OpenSpec.ofChange sequenceGainsSpec)

/-- ITS FALSE NEIGHBOUR: 'it returns false'. Refute it at one input. -/
def sequenceGainsWrong : ChangeSpec := { name := "sequenceGains", fn := fun _ => fun
  | [d1, d2, d3, d4] => { results := [.lit (.bool false)], args := [d1, d2, d3, d4] }
  | _ => none }
def SequenceGainsWrongFalsely : Prop := sequenceGainsRow.holds Try.pinned (OpenSpec.ofChange sequenceGainsWrong)

/-- 'skywaykeep3.SequenceShifts': WHATEVER THE INPUT: true; the input reads as it did. -/
def sequenceShiftsSpec : ChangeSpec := { name := "sequenceShifts", fn := fun _ => fun
  | [d1, d2, d3, d4] => { results := [.lit (.bool true)], args := [d1, d2, d3, d4] }
  | _ => none }
def sequenceShiftsRow : OpenClaim := { program := "ytdfopdlmdminbaa", sum := "9a1ae2b56289baa8f81942bc972506fc6be805befd21491cd10c59a8bffd0e6f", func := "skyway/skywaykeep3.SequenceShifts", spec := "sequenceShifts", unfollowed := true, recurses := true, apart := false }
def SequenceShiftsSaid : Prop := sequenceShiftsRow.holds Try.pinned (OpenSpec.ofChange sequenceShiftsSpec)

/-- ITS FALSE NEIGHBOUR: 'it returns false'. Refute it at one input. -/
def sequenceShiftsWrong : ChangeSpec := { name := "sequenceShifts", fn := fun _ => fun
  | [d1, d2, d3, d4] => { results := [.lit (.bool false)], args := [d1, d2, d3, d4] }
  | _ => none }
def SequenceShiftsWrongFalsely : Prop := sequenceShiftsRow.holds Try.pinned (OpenSpec.ofChange sequenceShiftsWrong)

/-- 'skywaykeep3.SequenceValid': WHATEVER THE INPUT: true; the input reads as it did. -/
def sequenceValidSpec : ChangeSpec := { name := "sequenceValid", fn := fun _ => fun
  | [d1, d2, d3] => { results := [.lit (.bool true)], args := [d1, d2, d3] }
  | _ => none }
def sequenceValidRow : OpenClaim := { program := "ytdfopdlmdminbaa", sum := "9a1ae2b56289baa8f81942bc972506fc6be805befd21491cd10c59a8bffd0e6f", func := "skyway/skywaykeep3.SequenceValid", spec := "sequenceValid", unfollowed := true, recurses := true, apart := false }
def SequenceValidSaid : Prop := sequenceValidRow.holds Try.pinned (OpenSpec.ofChange sequenceValidSpec)

/-- ITS FALSE NEIGHBOUR: 'it returns false'. Refute it at one input. -/
def sequenceValidWrong : ChangeSpec := { name := "sequenceValid", fn := fun _ => fun
  | [d1, d2, d3] => { results := [.lit (.bool false)], args := [d1, d2, d3] }
  | _ => none }
def SequenceValidWrongFalsely : Prop := sequenceValidRow.holds Try.pinned (OpenSpec.ofChange sequenceValidWrong)

/-- 'skywaykeep3.OwnerMerges': WHATEVER THE INPUT: true; the input reads as it did. -/
def ownerMergesSpec : ChangeSpec := { name := "ownerMerges", fn := fun _ => fun
  | [d1, d2, d3] => { results := [.lit (.bool true)], args := [d1, d2, d3] }
  | _ => none }
def ownerMergesRow : OpenClaim := { program := "ytdfopdlmdminbaa", sum := "9a1ae2b56289baa8f81942bc972506fc6be805befd21491cd10c59a8bffd0e6f", func := "skyway/skywaykeep3.OwnerMerges", spec := "ownerMerges", inPlace := ["internal/bytealg.abigen_runtime_cmpstring", "slices.overlaps[skyway/api.OwnerEntry]"], unfollowed := true, recurses := true, apart := false }
def OwnerMergesSaid : Prop := ownerMergesRow.holds Try.pinned (OpenSpec.ofChange ownerMergesSpec)

/-- ITS FALSE NEIGHBOUR: 'it returns false'. Refute it at one input. -/
def ownerMergesWrong : ChangeSpec := { name := "ownerMerges", fn := fun _ => fun
  | [d1, d2, d3] => { results := [.lit (.bool false)], args := [d1, d2, d3] }
  | _ => none }
def OwnerMergesWrongFalsely : Prop := ownerMergesRow.holds Try.pinned (OpenSpec.ofChange ownerMergesWrong)

/- THE SECOND FORM. 'bulk': how many values and letters a reading holds, each counted each time it is reached (what is shared counts as often as it is met; a slice's spare places count too). A statement '..UptoSaid' is the law's where the arguments, and the package variables that the reading takes, are together of bulk at most 1048576: NARROWER than '..Said'. Prove '..Said' where nothing that the law and all that it calls make is longer than what came in: it says more and counts as full. Else prove '..UptoSaid'. A law counts once. -/
mutual
def uptoBulk {H : Type} : DataW H → Nat
  | .lit (.string bytes) => bytes.length + 1
  | .lit _ => 1
  | .nil => 1
  | .ptr d => uptoBulk d + 1
  | .slice elems spare => uptoBulkAll elems + uptoBulkAll spare + 1
  | .agg parts => uptoBulkAll parts + 1
  | .iface _ d => uptoBulk d + 1
  | .map entries => uptoBulkEntries entries + 1
  | .held _ => 1
def uptoBulkAll {H : Type} : List (DataW H) → Nat
  | [] => 0
  | d :: r => uptoBulk d + uptoBulkAll r
def uptoBulkEntries {H : Type} : List (Lit × DataW H) → Nat
  | [] => 0
  | x :: r => uptoBulkEntry x + uptoBulkEntries r
def uptoBulkEntry {H : Type} : Lit × DataW H → Nat
  | (.string bytes, d) => bytes.length + uptoBulk d + 1
  | (_, d) => uptoBulk d + 1
 end
def uptoSmall : (H : Type) → List (DataW H) → Bool := fun _ ds => decide (uptoBulkAll ds ≤ 1048576)
def OpenSpec.upto (s : _root_.Go.ChangeSpec) : _root_.Go.OpenSpec := { _root_.Go.OpenSpec.ofChange s with cond := some uptoSmall }

/-- 'skywaykeep3.LoadSums', WHERE WHAT IT READS IS OF BULK AT MOST 1048576: true; the input reads as it did. -/
def loadSumsUptoRow : OpenClaim := { program := "ytdfopdlmdminbaa", sum := "9a1ae2b56289baa8f81942bc972506fc6be805befd21491cd10c59a8bffd0e6f", func := "skyway/skywaykeep3.LoadSums", spec := "loadSums", unfollowed := true, recurses := true, apart := false, narrowed := true }
def LoadSumsUptoSaid : Prop := loadSumsUptoRow.holds Try.pinned (OpenSpec.upto loadSumsSpec)

/-- 'skywaykeep3.LoadEnters', WHERE WHAT IT READS IS OF BULK AT MOST 1048576: true; the input reads as it did. -/
def loadEntersUptoRow : OpenClaim := { program := "ytdfopdlmdminbaa", sum := "9a1ae2b56289baa8f81942bc972506fc6be805befd21491cd10c59a8bffd0e6f", func := "skyway/skywaykeep3.LoadEnters", spec := "loadEnters", unfollowed := true, recurses := true, apart := false, narrowed := true }
def LoadEntersUptoSaid : Prop := loadEntersUptoRow.holds Try.pinned (OpenSpec.upto loadEntersSpec)

/-- 'skywaykeep3.LoadLimits', WHERE WHAT IT READS IS OF BULK AT MOST 1048576: true; the input reads as it did. -/
def loadLimitsUptoRow : OpenClaim := { program := "ytdfopdlmdminbaa", sum := "9a1ae2b56289baa8f81942bc972506fc6be805befd21491cd10c59a8bffd0e6f", func := "skyway/skywaykeep3.LoadLimits", spec := "loadLimits", unfollowed := true, recurses := true, apart := false, narrowed := true }
def LoadLimitsUptoSaid : Prop := loadLimitsUptoRow.holds Try.pinned (OpenSpec.upto loadLimitsSpec)

/-- 'skywaykeep3.LoadAdds', WHERE WHAT IT READS IS OF BULK AT MOST 1048576: true; the input reads as it did. -/
def loadAddsUptoRow : OpenClaim := { program := "ytdfopdlmdminbaa", sum := "9a1ae2b56289baa8f81942bc972506fc6be805befd21491cd10c59a8bffd0e6f", func := "skyway/skywaykeep3.LoadAdds", spec := "loadAdds", unfollowed := true, recurses := true, apart := false, narrowed := true }
def LoadAddsUptoSaid : Prop := loadAddsUptoRow.holds Try.pinned (OpenSpec.upto loadAddsSpec)

/-- 'skywaykeep3.SlotEarlier', WHERE WHAT IT READS IS OF BULK AT MOST 1048576: true; the input reads as it did. -/
def slotEarlierUptoRow : OpenClaim := { program := "ytdfopdlmdminbaa", sum := "9a1ae2b56289baa8f81942bc972506fc6be805befd21491cd10c59a8bffd0e6f", func := "skyway/skywaykeep3.SlotEarlier", spec := "slotEarlier", unfollowed := true, recurses := true, apart := false, narrowed := true }
def SlotEarlierUptoSaid : Prop := slotEarlierUptoRow.holds Try.pinned (OpenSpec.upto slotEarlierSpec)

/-- 'skywaykeep3.SlotImproves', WHERE WHAT IT READS IS OF BULK AT MOST 1048576: true; the input reads as it did. -/
def slotImprovesUptoRow : OpenClaim := { program := "ytdfopdlmdminbaa", sum := "9a1ae2b56289baa8f81942bc972506fc6be805befd21491cd10c59a8bffd0e6f", func := "skyway/skywaykeep3.SlotImproves", spec := "slotImproves", unfollowed := true, recurses := true, apart := false, narrowed := true }
def SlotImprovesUptoSaid : Prop := slotImprovesUptoRow.holds Try.pinned (OpenSpec.upto slotImprovesSpec)

/-- 'skywaykeep3.SlotSwaps', WHERE WHAT IT READS IS OF BULK AT MOST 1048576: true; the input reads as it did. -/
def slotSwapsUptoRow : OpenClaim := { program := "ytdfopdlmdminbaa", sum := "9a1ae2b56289baa8f81942bc972506fc6be805befd21491cd10c59a8bffd0e6f", func := "skyway/skywaykeep3.SlotSwaps", spec := "slotSwaps", unfollowed := true, recurses := true, apart := false, narrowed := true }
def SlotSwapsUptoSaid : Prop := slotSwapsUptoRow.holds Try.pinned (OpenSpec.upto slotSwapsSpec)

/-- 'skywaykeep3.SlotFits', WHERE WHAT IT READS IS OF BULK AT MOST 1048576: true; the input reads as it did. -/
def slotFitsUptoRow : OpenClaim := { program := "ytdfopdlmdminbaa", sum := "9a1ae2b56289baa8f81942bc972506fc6be805befd21491cd10c59a8bffd0e6f", func := "skyway/skywaykeep3.SlotFits", spec := "slotFits", unfollowed := true, recurses := true, apart := false, narrowed := true }
def SlotFitsUptoSaid : Prop := slotFitsUptoRow.holds Try.pinned (OpenSpec.upto slotFitsSpec)

/-- 'skywaykeep3.SequenceGains', WHERE WHAT IT READS IS OF BULK AT MOST 1048576: true; the input reads as it did. -/
def sequenceGainsUptoRow : OpenClaim := { program := "ytdfopdlmdminbaa", sum := "9a1ae2b56289baa8f81942bc972506fc6be805befd21491cd10c59a8bffd0e6f", func := "skyway/skywaykeep3.SequenceGains", spec := "sequenceGains", unfollowed := true, recurses := true, apart := false, narrowed := true }
def SequenceGainsUptoSaid : Prop := sequenceGainsUptoRow.holds Try.pinned (OpenSpec.upto sequenceGainsSpec)

/-- 'skywaykeep3.SequenceShifts', WHERE WHAT IT READS IS OF BULK AT MOST 1048576: true; the input reads as it did. -/
def sequenceShiftsUptoRow : OpenClaim := { program := "ytdfopdlmdminbaa", sum := "9a1ae2b56289baa8f81942bc972506fc6be805befd21491cd10c59a8bffd0e6f", func := "skyway/skywaykeep3.SequenceShifts", spec := "sequenceShifts", unfollowed := true, recurses := true, apart := false, narrowed := true }
def SequenceShiftsUptoSaid : Prop := sequenceShiftsUptoRow.holds Try.pinned (OpenSpec.upto sequenceShiftsSpec)

/-- 'skywaykeep3.SequenceValid', WHERE WHAT IT READS IS OF BULK AT MOST 1048576: true; the input reads as it did. -/
def sequenceValidUptoRow : OpenClaim := { program := "ytdfopdlmdminbaa", sum := "9a1ae2b56289baa8f81942bc972506fc6be805befd21491cd10c59a8bffd0e6f", func := "skyway/skywaykeep3.SequenceValid", spec := "sequenceValid", unfollowed := true, recurses := true, apart := false, narrowed := true }
def SequenceValidUptoSaid : Prop := sequenceValidUptoRow.holds Try.pinned (OpenSpec.upto sequenceValidSpec)

/-- 'skywaykeep3.OwnerMerges', WHERE WHAT IT READS IS OF BULK AT MOST 1048576: true; the input reads as it did. -/
def ownerMergesUptoRow : OpenClaim := { program := "ytdfopdlmdminbaa", sum := "9a1ae2b56289baa8f81942bc972506fc6be805befd21491cd10c59a8bffd0e6f", func := "skyway/skywaykeep3.OwnerMerges", spec := "ownerMerges", inPlace := ["internal/bytealg.abigen_runtime_cmpstring", "slices.overlaps[skyway/api.OwnerEntry]"], unfollowed := true, recurses := true, apart := false, narrowed := true }
def OwnerMergesUptoSaid : Prop := ownerMergesUptoRow.holds Try.pinned (OpenSpec.upto ownerMergesSpec)

end Rows
end Go.Proofs.Ytdfopdlmdminbaa
