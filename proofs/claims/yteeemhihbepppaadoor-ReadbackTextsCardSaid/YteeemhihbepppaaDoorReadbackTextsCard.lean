/- What is proved here: the row of the law ReadbackTexts and its tied card: for every input the law returns true, and the input reads behind the call as it did, where the listed package variables read as listed; the tie to the program's text is the given one. Conditions: none beyond the row's own. -/
import Derived.Test.YteeemhihbepppaaDoorRows
import Derived.Test.YteeemhihbepppaaDoorCards
import Derived.Test.YteeemhihbepppaaDoorTie
import Derived.Test.YteeemhihbepppaaDoorPhrD
import Derived.Test.YteeemhihbepppaaDoorPhrL
import Derived.ProofKit
import Derived.SevenTiedAt
namespace Go.Proofs.YteeemhihbepppaaDoor.readbackTexts
open Go Go.R Go.Proofs
theorem own : ownKnob Tryd.prog.godebug = none := by kernel_rfl
theorem laidOut : laidOutB Tryd.prog = true := by kernel_rfl
set_option maxRecDepth 100000 in
theorem lifted (os : Os) (started : os.Started) (H : Type) (enc : TypeId × Value → H) :
    ReturnsInHanded {} Tryd.checked os 5 .any (fun w args => (Rows.readbackTextsSpec.pre enc Tryd.prog Tryd.f5 Rows.readbackTextsRow.domain false w args ∧ laidMetH Tryd.prog RT.laid w) ∧ sizedMet enc Tryd.prog Tryd.f5 (OpenSpec.ofChange Rows.readbackTextsSpec) false w args)
      (Rows.readbackTextsSpec.post enc Tryd.prog Tryd.f5 false true false false) := by
  refine returnsInHanded_of_change_and (C := Tryd.checked) (X := fun w _ => laidMetH Tryd.prog RT.laid w) (fun _ _ _ hh h => laidMet.of_heap (l := RT.laid) hh h) own started (by kernel_rfl) Tryd.func5
    (ChangeSpec.witness_at (enc := enc) (C := Tryd.checked) (os := os) (X := fun w _ => laidMetH Tryd.prog RT.laid w) false (RT.laidWorld os) #[.agg #[.string ByteArray.empty, .int .i64 0, .int .i64 0, .string ByteArray.empty], .agg #[.string ByteArray.empty, .int .i64 0, .int .i64 0, .string ByteArray.empty]] 8 (by first | rfl | exact World.laidAll_os _ _ _) (by kernel_rfl) (by kernel_rfl) (by kernel_rfl) (by kernel_rfl) (by kernel_rfl) (RT.laidWorld_met os _)) ?_
  intro W base args ds gs before hval hW hcnd hsz hL _
  exact law_rowG laidOut RT.skywaykeep3_ReadbackTexts.ok (fun k => rfl) (ts := [23, 23]) (n := 20) (tb := 4) (by rw [Tryd.params5]) (by kernel_rfl) rfl (by kernel_rfl) rfl (by kernel_rfl) (by kernel_rfl) (fun ds h => by match ds, h with | [_, _], _ => exact ⟨rfl, rfl, rfl⟩) RT.ReadbackTexts_law W (RT.glob_ok hL) base args ds gs before hval hW hsz
theorem row : Rows.ReadbackTextsSaid :=
  OpenClaim.holds_of_wide 5 Tryd.f5 rfl rfl rfl rfl rfl rfl rfl ⟨rfl, rfl, rfl, rfl, rfl⟩ rfl rfl rfl rfl rfl (by kernel_rfl) Tryd.func5 (by kernel_rfl)
    (of_decide_eq_true (by kernel_rfl)) (by unfold Func.isWrapper; first | (rw [if_pos (by decide +kernel)]; kernel_rfl) | (rw [if_neg (by decide +kernel)]; exact ⟨rfl, rfl⟩))
    (fun os started H enc _ => lifted os started H enc)
theorem proved : Rows.ReadbackTextsCardSaid :=
  Claim7.holds_tied_plain_at .later [] [.data, .data, .data, .data, .sentinel, .sentinel, .data, .data, .pinned] true (true, "fc048d7f630426940ff07d393f4032970eaf3ecf47b9425281f03b315328b5b7") true row (fun _ h => by cases h) (by kernel_rfl) (fun _ h => by cases h) readbackTexts_row_tie rfl ⟨rfl, rfl⟩ (by kernel_rfl) rfl
    (fun f fn hf hfn => by
      obtain rfl : f = 5 := (Option.some.inj ((show Tryd.prog.funcNamed "skyway/skywaykeep3.ReadbackTexts" = some 5 by kernel_rfl).symm.trans hf)).symm
      obtain rfl : fn = Tryd.f5 := (Option.some.inj (Tryd.func5.symm.trans hfn)).symm
      exact ⟨by kernel_rfl, fun j t ht => by
        rw [Tryd.params5] at ht
        have h : t ∈ [23, 23] := by
          rw [← Array.getElem?_toList] at ht
          exact List.mem_of_getElem? ht
        have hs : ∀ u ∈ [23, 23], Tryd.prog.wantsStandIn u = false := by
          simp only [List.forall_mem_cons]
          exact ⟨by kernel_rfl, by kernel_rfl, fun _ h => by cases h⟩
        exact hs t h⟩)
    (by kernel_rfl)
#print axioms proved
end Go.Proofs.YteeemhihbepppaaDoor.readbackTexts
