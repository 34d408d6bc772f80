/- What is proved here: the row of the law ResolveSafe and its tied card: for every input the law returns true, and the input reads behind the call as it did, where the listed package variables read as listed; the tie to the program's text is the given one. Conditions: none beyond the row's own. -/
import Derived.Test.YtdpchhbbmlhklaaGreatDoorRows
import Derived.Test.YtdpchhbbmlhklaaGreatDoorCards
import Derived.Test.YtdpchhbbmlhklaaGreatDoorTie
import Derived.Test.YtdpchhbbmlhklaaGreatDoorRsI
import Derived.Test.YtdpchhbbmlhklaaGreatDoorRsL
import Derived.ProofKit
import Derived.SevenTiedAt
namespace Go.Proofs.YtdpchhbbmlhklaaGreatDoor.resolveSafe
open Go Go.R Go.Proofs
theorem own : ownKnob Tryz.prog.godebug = none := by kernel_rfl
theorem laidOut : laidOutB Tryz.prog = true := by kernel_rfl
set_option maxRecDepth 100000 in
theorem lifted (os : Os) (started : os.Started) (H : Type) (enc : TypeId × Value → H) :
    ReturnsInHanded {} Tryz.checked os 4 .any (fun w args => (Rows.resolveSafeSpec.pre enc Tryz.prog Tryz.f4 Rows.resolveSafeRow.domain false w args ∧ laidMetH Tryz.prog RT.laid w) ∧ sizedMet enc Tryz.prog Tryz.f4 (OpenSpec.ofChange Rows.resolveSafeSpec) false w args)
      (Rows.resolveSafeSpec.post enc Tryz.prog Tryz.f4 false true false false) := by
  refine returnsInHanded_of_change_and (C := Tryz.checked) (X := fun w _ => laidMetH Tryz.prog RT.laid w) (fun _ _ _ hh h => laidMet.of_heap (l := RT.laid) hh h) own started (by kernel_rfl) Tryz.func4
    (ChangeSpec.witness_at (enc := enc) (C := Tryz.checked) (os := os) (X := fun w _ => laidMetH Tryz.prog RT.laid w) false (RT.laidWorld os) #[.slice none 0 0, .int .i64 0, .agg #[.int .i64 0, .int .i64 0], .int .i64 0, .agg #[.string ByteArray.empty, .int .i64 0, .int .i64 0, .int .i64 0, .int .i64 0, .int .i64 0, .int .i64 0]] 8 (by first | rfl | exact World.laidAll_os _ _ _) (by kernel_rfl) (by kernel_rfl) (by kernel_rfl) (by kernel_rfl) (by kernel_rfl) (RT.laidWorld_met os _)) ?_
  intro W base args ds gs before hval hW hcnd hsz hL _
  exact law_rowG laidOut RT.skywaykeep3_ResolveSafe.ok (fun k => rfl) (ts := [36, 3, 38, 3, 25]) (n := 20) (tb := 4) (by rw [Tryz.params4]) (by kernel_rfl) rfl (by kernel_rfl) rfl (by kernel_rfl) (by kernel_rfl) (fun ds h => by match ds, h with | [_, _, _, _, _], _ => exact ⟨rfl, rfl, rfl⟩) RT.ResolveSafe_law W (RT.glob_ok hL) base args ds gs before hval hW hsz
theorem row : Rows.ResolveSafeSaid :=
  OpenClaim.holds_of_wide 4 Tryz.f4 rfl rfl rfl rfl rfl rfl rfl ⟨rfl, rfl, rfl, rfl, rfl⟩ rfl rfl rfl rfl rfl (by kernel_rfl) Tryz.func4 (by kernel_rfl)
    (of_decide_eq_true (by kernel_rfl)) (by unfold Func.isWrapper; first | (rw [if_pos (by decide +kernel)]; kernel_rfl) | (rw [if_neg (by decide +kernel)]; exact ⟨rfl, rfl⟩))
    (fun os started H enc _ => lifted os started H enc)
theorem proved : Rows.ResolveSafeCardSaid :=
  Claim7.holds_tied_plain_at .later [] [.data, .data, .data, .data, .data] true (true, "88aa2cdee6cd48e02de520febf03b42dbd82b74a12edad1b307ca7c0d11e1be8") false row (fun _ h => by cases h) (by kernel_rfl) (fun _ h => by cases h) resolveSafe_row_tie rfl ⟨rfl, rfl⟩ (by kernel_rfl) rfl
    (fun f fn hf hfn => by
      obtain rfl : f = 4 := (Option.some.inj ((show Tryz.prog.funcNamed "skyway/skywaykeep3.ResolveSafe" = some 4 by kernel_rfl).symm.trans hf)).symm
      obtain rfl : fn = Tryz.f4 := (Option.some.inj (Tryz.func4.symm.trans hfn)).symm
      exact ⟨by kernel_rfl, fun j t ht => by
        rw [Tryz.params4] at ht
        have h : t ∈ [36, 3, 38, 3, 25] := by
          rw [← Array.getElem?_toList] at ht
          exact List.mem_of_getElem? ht
        have hs : ∀ u ∈ [36, 3, 38, 3, 25], Tryz.prog.wantsStandIn u = false := by
          simp only [List.forall_mem_cons]
          exact ⟨by kernel_rfl, by kernel_rfl, by kernel_rfl, by kernel_rfl, by kernel_rfl, fun _ h => by cases h⟩
        exact hs t h⟩)
    (by kernel_rfl)
#print axioms proved
end Go.Proofs.YtdpchhbbmlhklaaGreatDoor.resolveSafe
