/-
  No cell of these rows narrows 'for every input' (looked for: loops, veiled, ifaces, maps, wideKeys, modest, calm, conditions, laid).
  DERIVED. THE GIVEN ROWS OF THIS SEAT. 10 by the template 'for every input the law returns true; each argument reads behind the call as it read before'; 0 by the template 'total and deterministic' (their statements: YtdchminahimfhaaTotals.lean).
  GIVEN WITH THE SEED: the statements are not yours to turn. If you find one false, say at which input.
  Laid BY PROGRAM, IN A SANDBOX (cutbox-rows.mjs): the forced cells as the released guide's own fill.sh prints them over the translation 3a41257c53814aa6… (all of the seat's roots in one cut). By AI agents, Wed Nov 11 2026. No macro, syntax, notation, axiom, sorry.
-/
import Derived.Test.YtdchminahimfhaaChecked
import GoSem.Claim
import GoSem.ClaimJoined
import GoSem.ClaimMapViews
import Derived.JoinedTies
import Derived.KernelRfl
namespace Go.Proofs.Ytdchminahimfhaa
/- THE CELL 'sum', in the pinned program and in every row, IS THE sha256 OF THE DUMP (.gsa) THAT YtdchminahimfhaaProg.lean LOADS. Nothing in Lean hashes anything: it is a label: what it is worth is what the hold of that sum in a sandbox is worth. -/
noncomputable def Try.pinned : Pinned := { name := "ytdchminahimfhaa", sum := "3a41257c53814aa6a3a5073fd5ce72b2bbd5f7bcf17fc062c070ee790254f293", checked := Try.checked }
namespace Rows
def none {H : Type} : Left H := { results := [], args := [] }

/-- 'skywaykeep3.HandoverRepeats': WHATEVER THE INPUT: true; the input reads as it did. -/
def handoverRepeatsSpec : ChangeSpec := { name := "handoverRepeats", fn := fun _ => fun
  | [d1, d2] => { results := [.lit (.bool true)], args := [d1, d2] }
  | _ => none }
def handoverRepeatsRow : OpenClaim := { program := "ytdchminahimfhaa", sum := "3a41257c53814aa6a3a5073fd5ce72b2bbd5f7bcf17fc062c070ee790254f293", func := "skyway/skywaykeep3.HandoverRepeats", spec := "handoverRepeats", apart := false }
def HandoverRepeatsSaid : Prop := handoverRepeatsRow.holds Try.pinned (OpenSpec.ofChange handoverRepeatsSpec)

/-- ITS FALSE NEIGHBOUR: 'it returns false'. Refute it at one input. -/
def handoverRepeatsWrong : ChangeSpec := { name := "handoverRepeats", fn := fun _ => fun
  | [d1, d2] => { results := [.lit (.bool false)], args := [d1, d2] }
  | _ => none }
def HandoverRepeatsWrongFalsely : Prop := handoverRepeatsRow.holds Try.pinned (OpenSpec.ofChange handoverRepeatsWrong)

/-- 'skywaykeep3.WakePasses': WHATEVER THE INPUT: true; the input reads as it did. -/
def wakePassesSpec : ChangeSpec := { name := "wakePasses", fn := fun _ => fun
  | [d1, d2, d3] => { results := [.lit (.bool true)], args := [d1, d2, d3] }
  | _ => none }
def wakePassesRow : OpenClaim := { program := "ytdchminahimfhaa", sum := "3a41257c53814aa6a3a5073fd5ce72b2bbd5f7bcf17fc062c070ee790254f293", func := "skyway/skywaykeep3.WakePasses", spec := "wakePasses", apart := false }
def WakePassesSaid : Prop := wakePassesRow.holds Try.pinned (OpenSpec.ofChange wakePassesSpec)

/-- ITS FALSE NEIGHBOUR: 'it returns false'. Refute it at one input. -/
def wakePassesWrong : ChangeSpec := { name := "wakePasses", fn := fun _ => fun
  | [d1, d2, d3] => { results := [.lit (.bool false)], args := [d1, d2, d3] }
  | _ => none }
def WakePassesWrongFalsely : Prop := wakePassesRow.holds Try.pinned (OpenSpec.ofChange wakePassesWrong)

/-- 'skywaykeep3.WakeShifts': WHATEVER THE INPUT: true; the input reads as it did. -/
def wakeShiftsSpec : ChangeSpec := { name := "wakeShifts", fn := fun _ => fun
  | [d1, d2, d3, d4] => { results := [.lit (.bool true)], args := [d1, d2, d3, d4] }
  | _ => none }
def wakeShiftsRow : OpenClaim := { program := "ytdchminahimfhaa", sum := "3a41257c53814aa6a3a5073fd5ce72b2bbd5f7bcf17fc062c070ee790254f293", func := "skyway/skywaykeep3.WakeShifts", spec := "wakeShifts", apart := false }
def WakeShiftsSaid : Prop := wakeShiftsRow.holds Try.pinned (OpenSpec.ofChange wakeShiftsSpec)

/-- ITS FALSE NEIGHBOUR: 'it returns false'. Refute it at one input. -/
def wakeShiftsWrong : ChangeSpec := { name := "wakeShifts", fn := fun _ => fun
  | [d1, d2, d3, d4] => { results := [.lit (.bool false)], args := [d1, d2, d3, d4] }
  | _ => none }
def WakeShiftsWrongFalsely : Prop := wakeShiftsRow.holds Try.pinned (OpenSpec.ofChange wakeShiftsWrong)

/-- 'skywaykeep3.HandoverOne': WHATEVER THE INPUT: true; the input reads as it did. -/
def handoverOneSpec : ChangeSpec := { name := "handoverOne", fn := fun _ => fun
  | [d] => { results := [.lit (.bool true)], args := [d] }
  | _ => none }
def handoverOneRow : OpenClaim := { program := "ytdchminahimfhaa", sum := "3a41257c53814aa6a3a5073fd5ce72b2bbd5f7bcf17fc062c070ee790254f293", func := "skyway/skywaykeep3.HandoverOne", spec := "handoverOne", apart := false }
def HandoverOneSaid : Prop := handoverOneRow.holds Try.pinned (OpenSpec.ofChange handoverOneSpec)

/-- ITS FALSE NEIGHBOUR: 'it returns false'. Refute it at one input. -/
def handoverOneWrong : ChangeSpec := { name := "handoverOne", fn := fun _ => fun
  | [d] => { results := [.lit (.bool false)], args := [d] }
  | _ => none }
def HandoverOneWrongFalsely : Prop := handoverOneRow.holds Try.pinned (OpenSpec.ofChange handoverOneWrong)

/-- 'skywaykeep3.HandoverEnds': WHATEVER THE INPUT: true; the input reads as it did. -/
def handoverEndsSpec : ChangeSpec := { name := "handoverEnds", fn := fun _ => fun
  | [d] => { results := [.lit (.bool true)], args := [d] }
  | _ => none }
def handoverEndsRow : OpenClaim := { program := "ytdchminahimfhaa", sum := "3a41257c53814aa6a3a5073fd5ce72b2bbd5f7bcf17fc062c070ee790254f293", func := "skyway/skywaykeep3.HandoverEnds", spec := "handoverEnds", apart := false }
def HandoverEndsSaid : Prop := handoverEndsRow.holds Try.pinned (OpenSpec.ofChange handoverEndsSpec)

/-- ITS FALSE NEIGHBOUR: 'it returns false'. Refute it at one input. -/
def handoverEndsWrong : ChangeSpec := { name := "handoverEnds", fn := fun _ => fun
  | [d] => { results := [.lit (.bool false)], args := [d] }
  | _ => none }
def HandoverEndsWrongFalsely : Prop := handoverEndsRow.holds Try.pinned (OpenSpec.ofChange handoverEndsWrong)

/-- 'skywaykeep3.FlowUses': WHATEVER THE INPUT: true; the input reads as it did. -/
def flowUsesSpec : ChangeSpec := { name := "flowUses", fn := fun _ => fun
  | [d1, d2] => { results := [.lit (.bool true)], args := [d1, d2] }
  | _ => none }
def flowUsesRow : OpenClaim := { program := "ytdchminahimfhaa", sum := "3a41257c53814aa6a3a5073fd5ce72b2bbd5f7bcf17fc062c070ee790254f293", func := "skyway/skywaykeep3.FlowUses", spec := "flowUses", apart := false }
def FlowUsesSaid : Prop := flowUsesRow.holds Try.pinned (OpenSpec.ofChange flowUsesSpec)

/-- ITS FALSE NEIGHBOUR: 'it returns false'. Refute it at one input. -/
def flowUsesWrong : ChangeSpec := { name := "flowUses", fn := fun _ => fun
  | [d1, d2] => { results := [.lit (.bool false)], args := [d1, d2] }
  | _ => none }
def FlowUsesWrongFalsely : Prop := flowUsesRow.holds Try.pinned (OpenSpec.ofChange flowUsesWrong)

/-- 'skywaykeep3.FlowOrders': WHATEVER THE INPUT: true; the input reads as it did. -/
def flowOrdersSpec : ChangeSpec := { name := "flowOrders", fn := fun _ => fun
  | [d1, d2] => { results := [.lit (.bool true)], args := [d1, d2] }
  | _ => none }
def flowOrdersRow : OpenClaim := { program := "ytdchminahimfhaa", sum := "3a41257c53814aa6a3a5073fd5ce72b2bbd5f7bcf17fc062c070ee790254f293", func := "skyway/skywaykeep3.FlowOrders", spec := "flowOrders", apart := false }
def FlowOrdersSaid : Prop := flowOrdersRow.holds Try.pinned (OpenSpec.ofChange flowOrdersSpec)

/-- ITS FALSE NEIGHBOUR: 'it returns false'. Refute it at one input. -/
def flowOrdersWrong : ChangeSpec := { name := "flowOrders", fn := fun _ => fun
  | [d1, d2] => { results := [.lit (.bool false)], args := [d1, d2] }
  | _ => none }
def FlowOrdersWrongFalsely : Prop := flowOrdersRow.holds Try.pinned (OpenSpec.ofChange flowOrdersWrong)

/-- 'skywaykeep3.LinkPrefixes': WHATEVER THE INPUT: true; the input reads as it did. -/
def linkPrefixesSpec : ChangeSpec := { name := "linkPrefixes", fn := fun _ => fun
  | [d1, d2] => { results := [.lit (.bool true)], args := [d1, d2] }
  | _ => none }
def linkPrefixesRow : OpenClaim := { program := "ytdchminahimfhaa", sum := "3a41257c53814aa6a3a5073fd5ce72b2bbd5f7bcf17fc062c070ee790254f293", func := "skyway/skywaykeep3.LinkPrefixes", spec := "linkPrefixes", unfollowed := true, recurses := true, apart := false }
def LinkPrefixesSaid : Prop := linkPrefixesRow.holds Try.pinned (OpenSpec.ofChange linkPrefixesSpec)

/-- ITS FALSE NEIGHBOUR: 'it returns false'. Refute it at one input. -/
def linkPrefixesWrong : ChangeSpec := { name := "linkPrefixes", fn := fun _ => fun
  | [d1, d2] => { results := [.lit (.bool false)], args := [d1, d2] }
  | _ => none }
def LinkPrefixesWrongFalsely : Prop := linkPrefixesRow.holds Try.pinned (OpenSpec.ofChange linkPrefixesWrong)

/-- 'skywaykeep3.LinkForgets': WHATEVER THE INPUT: true; the input reads as it did. -/
def linkForgetsSpec : ChangeSpec := { name := "linkForgets", fn := fun _ => fun
  | [d1, d2] => { results := [.lit (.bool true)], args := [d1, d2] }
  | _ => none }
def linkForgetsRow : OpenClaim := { program := "ytdchminahimfhaa", sum := "3a41257c53814aa6a3a5073fd5ce72b2bbd5f7bcf17fc062c070ee790254f293", func := "skyway/skywaykeep3.LinkForgets", spec := "linkForgets", apart := false }
def LinkForgetsSaid : Prop := linkForgetsRow.holds Try.pinned (OpenSpec.ofChange linkForgetsSpec)

/-- ITS FALSE NEIGHBOUR: 'it returns false'. Refute it at one input. -/
def linkForgetsWrong : ChangeSpec := { name := "linkForgets", fn := fun _ => fun
  | [d1, d2] => { results := [.lit (.bool false)], args := [d1, d2] }
  | _ => none }
def LinkForgetsWrongFalsely : Prop := linkForgetsRow.holds Try.pinned (OpenSpec.ofChange linkForgetsWrong)

/-- 'skywaykeep3.OwnerPasses': WHATEVER THE INPUT: true; the input reads as it did. -/
def ownerPassesSpec : ChangeSpec := { name := "ownerPasses", fn := fun _ => fun
  | [d1, d2, d3, d4, d5] => { results := [.lit (.bool true)], args := [d1, d2, d3, d4, d5] }
  | _ => none }
def ownerPassesRow : OpenClaim := { program := "ytdchminahimfhaa", sum := "3a41257c53814aa6a3a5073fd5ce72b2bbd5f7bcf17fc062c070ee790254f293", func := "skyway/skywaykeep3.OwnerPasses", spec := "ownerPasses", inPlace := ["internal/bytealg.abigen_runtime_cmpstring", "slices.overlaps[skyway/api.OwnerEntry]"], unfollowed := true, recurses := true, apart := false }
def OwnerPassesSaid : Prop := ownerPassesRow.holds Try.pinned (OpenSpec.ofChange ownerPassesSpec)

/-- ITS FALSE NEIGHBOUR: 'it returns false'. Refute it at one input. -/
def ownerPassesWrong : ChangeSpec := { name := "ownerPasses", fn := fun _ => fun
  | [d1, d2, d3, d4, d5] => { results := [.lit (.bool false)], args := [d1, d2, d3, d4, d5] }
  | _ => none }
def OwnerPassesWrongFalsely : Prop := ownerPassesRow.holds Try.pinned (OpenSpec.ofChange ownerPassesWrong)

/- THE SECOND FORM. 'bulk': how many values and letters a reading holds, each counted each time it is reached (what is shared counts as often as it is met; a slice's spare places count too). A statement '..UptoSaid' is the law's where the arguments, and the package variables that the reading takes, are together of bulk at most 1048576: NARROWER than '..Said'. Prove '..Said' where nothing that the law and all that it calls make is longer than what came in: it says more and counts as full. Else prove '..UptoSaid'. A law counts once. -/
mutual
def uptoBulk {H : Type} : DataW H → Nat
  | .lit (.string bytes) => bytes.length + 1
  | .lit _ => 1
  | .nil => 1
  | .ptr d => uptoBulk d + 1
  | .slice elems spare => uptoBulkAll elems + uptoBulkAll spare + 1
  | .agg parts => uptoBulkAll parts + 1
  | .iface _ d => uptoBulk d + 1
  | .map entries => uptoBulkEntries entries + 1
  | .held _ => 1
def uptoBulkAll {H : Type} : List (DataW H) → Nat
  | [] => 0
  | d :: r => uptoBulk d + uptoBulkAll r
def uptoBulkEntries {H : Type} : List (Lit × DataW H) → Nat
  | [] => 0
  | x :: r => uptoBulkEntry x + uptoBulkEntries r
def uptoBulkEntry {H : Type} : Lit × DataW H → Nat
  | (.string bytes, d) => bytes.length + uptoBulk d + 1
  | (_, d) => uptoBulk d + 1
 end
def uptoSmall : (H : Type) → List (DataW H) → Bool := fun _ ds => decide (uptoBulkAll ds ≤ 1048576)
def OpenSpec.upto (s : _root_.Go.ChangeSpec) : _root_.Go.OpenSpec := { _root_.Go.OpenSpec.ofChange s with cond := some uptoSmall }

/-- 'skywaykeep3.HandoverRepeats', WHERE WHAT IT READS IS OF BULK AT MOST 1048576: true; the input reads as it did. -/
def handoverRepeatsUptoRow : OpenClaim := { program := "ytdchminahimfhaa", sum := "3a41257c53814aa6a3a5073fd5ce72b2bbd5f7bcf17fc062c070ee790254f293", func := "skyway/skywaykeep3.HandoverRepeats", spec := "handoverRepeats", apart := false, narrowed := true }
def HandoverRepeatsUptoSaid : Prop := handoverRepeatsUptoRow.holds Try.pinned (OpenSpec.upto handoverRepeatsSpec)

/-- 'skywaykeep3.WakePasses', WHERE WHAT IT READS IS OF BULK AT MOST 1048576: true; the input reads as it did. -/
def wakePassesUptoRow : OpenClaim := { program := "ytdchminahimfhaa", sum := "3a41257c53814aa6a3a5073fd5ce72b2bbd5f7bcf17fc062c070ee790254f293", func := "skyway/skywaykeep3.WakePasses", spec := "wakePasses", apart := false, narrowed := true }
def WakePassesUptoSaid : Prop := wakePassesUptoRow.holds Try.pinned (OpenSpec.upto wakePassesSpec)

/-- 'skywaykeep3.WakeShifts', WHERE WHAT IT READS IS OF BULK AT MOST 1048576: true; the input reads as it did. -/
def wakeShiftsUptoRow : OpenClaim := { program := "ytdchminahimfhaa", sum := "3a41257c53814aa6a3a5073fd5ce72b2bbd5f7bcf17fc062c070ee790254f293", func := "skyway/skywaykeep3.WakeShifts", spec := "wakeShifts", apart := false, narrowed := true }
def WakeShiftsUptoSaid : Prop := wakeShiftsUptoRow.holds Try.pinned (OpenSpec.upto wakeShiftsSpec)

/-- 'skywaykeep3.HandoverOne', WHERE WHAT IT READS IS OF BULK AT MOST 1048576: true; the input reads as it did. -/
def handoverOneUptoRow : OpenClaim := { program := "ytdchminahimfhaa", sum := "3a41257c53814aa6a3a5073fd5ce72b2bbd5f7bcf17fc062c070ee790254f293", func := "skyway/skywaykeep3.HandoverOne", spec := "handoverOne", apart := false, narrowed := true }
def HandoverOneUptoSaid : Prop := handoverOneUptoRow.holds Try.pinned (OpenSpec.upto handoverOneSpec)

/-- 'skywaykeep3.HandoverEnds', WHERE WHAT IT READS IS OF BULK AT MOST 1048576: true; the input reads as it did. -/
def handoverEndsUptoRow : OpenClaim := { program := "ytdchminahimfhaa", sum := "3a41257c53814aa6a3a5073fd5ce72b2bbd5f7bcf17fc062c070ee790254f293", func := "skyway/skywaykeep3.HandoverEnds", spec := "handoverEnds", apart := false, narrowed := true }
def HandoverEndsUptoSaid : Prop := handoverEndsUptoRow.holds Try.pinned (OpenSpec.upto handoverEndsSpec)

/-- 'skywaykeep3.FlowUses', WHERE WHAT IT READS IS OF BULK AT MOST 1048576: true; the input reads as it did. -/
def flowUsesUptoRow : OpenClaim := { program := "ytdchminahimfhaa", sum := "3a41257c53814aa6a3a5073fd5ce72b2bbd5f7bcf17fc062c070ee790254f293", func := "skyway/skywaykeep3.FlowUses", spec := "flowUses", apart := false, narrowed := true }
def FlowUsesUptoSaid : Prop := flowUsesUptoRow.holds Try.pinned (OpenSpec.upto flowUsesSpec)

/-- 'skywaykeep3.FlowOrders', WHERE WHAT IT READS IS OF BULK AT MOST 1048576: true; the input reads as it did. -/
def flowOrdersUptoRow : OpenClaim := { program := "ytdchminahimfhaa", sum := "3a41257c53814aa6a3a5073fd5ce72b2bbd5f7bcf17fc062c070ee790254f293", func := "skyway/skywaykeep3.FlowOrders", spec := "flowOrders", apart := false, narrowed := true }
def FlowOrdersUptoSaid : Prop := flowOrdersUptoRow.holds Try.pinned (OpenSpec.upto flowOrdersSpec)

/-- 'skywaykeep3.LinkPrefixes', WHERE WHAT IT READS IS OF BULK AT MOST 1048576: true; the input reads as it did. -/
def linkPrefixesUptoRow : OpenClaim := { program := "ytdchminahimfhaa", sum := "3a41257c53814aa6a3a5073fd5ce72b2bbd5f7bcf17fc062c070ee790254f293", func := "skyway/skywaykeep3.LinkPrefixes", spec := "linkPrefixes", unfollowed := true, recurses := true, apart := false, narrowed := true }
def LinkPrefixesUptoSaid : Prop := linkPrefixesUptoRow.holds Try.pinned (OpenSpec.upto linkPrefixesSpec)

/-- 'skywaykeep3.LinkForgets', WHERE WHAT IT READS IS OF BULK AT MOST 1048576: true; the input reads as it did. -/
def linkForgetsUptoRow : OpenClaim := { program := "ytdchminahimfhaa", sum := "3a41257c53814aa6a3a5073fd5ce72b2bbd5f7bcf17fc062c070ee790254f293", func := "skyway/skywaykeep3.LinkForgets", spec := "linkForgets", apart := false, narrowed := true }
def LinkForgetsUptoSaid : Prop := linkForgetsUptoRow.holds Try.pinned (OpenSpec.upto linkForgetsSpec)

/-- 'skywaykeep3.OwnerPasses', WHERE WHAT IT READS IS OF BULK AT MOST 1048576: true; the input reads as it did. -/
def ownerPassesUptoRow : OpenClaim := { program := "ytdchminahimfhaa", sum := "3a41257c53814aa6a3a5073fd5ce72b2bbd5f7bcf17fc062c070ee790254f293", func := "skyway/skywaykeep3.OwnerPasses", spec := "ownerPasses", inPlace := ["internal/bytealg.abigen_runtime_cmpstring", "slices.overlaps[skyway/api.OwnerEntry]"], unfollowed := true, recurses := true, apart := false, narrowed := true }
def OwnerPassesUptoSaid : Prop := ownerPassesUptoRow.holds Try.pinned (OpenSpec.upto ownerPassesSpec)

end Rows
end Go.Proofs.Ytdchminahimfhaa
