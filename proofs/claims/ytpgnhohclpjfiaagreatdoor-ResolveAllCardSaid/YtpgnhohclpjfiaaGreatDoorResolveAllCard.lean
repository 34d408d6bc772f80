/- What is proved here: the row of the law ResolveAll and its tied card: for every input the law returns true, and the input reads behind the call as it did, where the listed package variables read as listed; the tie to the program's text is the given one. Conditions: none beyond the row's own. -/
import Derived.Test.YtpgnhohclpjfiaaGreatDoorRows
import Derived.Test.YtpgnhohclpjfiaaGreatDoorCards
import Derived.Test.YtpgnhohclpjfiaaGreatDoorTie
import Derived.Test.YtpgnhohclpjfiaaGreatDoorResB
import Derived.Test.YtpgnhohclpjfiaaGreatDoorResL
import Derived.ProofKit
import Derived.SevenTiedAt
namespace Go.Proofs.YtpgnhohclpjfiaaGreatDoor.resolveAll
open Go Go.R Go.Proofs
theorem own : ownKnob Tryz.prog.godebug = none := by kernel_rfl
theorem laidOut : laidOutB Tryz.prog = true := by kernel_rfl
set_option maxRecDepth 100000 in
theorem lifted (os : Os) (started : os.Started) (H : Type) (enc : TypeId × Value → H) :
    ReturnsInHanded {} Tryz.checked os 5 .any (fun w args => (Rows.resolveAllSpec.pre enc Tryz.prog Tryz.f5 Rows.resolveAllRow.domain false w args ∧ laidMetH Tryz.prog RT.laid w) ∧ sizedMet enc Tryz.prog Tryz.f5 (OpenSpec.ofChange Rows.resolveAllSpec) false w args)
      (Rows.resolveAllSpec.post enc Tryz.prog Tryz.f5 false true false false) := by
  refine returnsInHanded_of_change_and (C := Tryz.checked) (X := fun w _ => laidMetH Tryz.prog RT.laid w) (fun _ _ _ hh h => laidMet.of_heap (l := RT.laid) hh h) own started (by kernel_rfl) Tryz.func5
    (ChangeSpec.witness_at (enc := enc) (C := Tryz.checked) (os := os) (X := fun w _ => laidMetH Tryz.prog RT.laid w) false (RT.laidWorld os) #[.slice none 0 0, .agg #[.int .i64 0, .int .i64 0]] 8 rfl (by kernel_rfl) (by kernel_rfl) (by kernel_rfl) (by kernel_rfl) (by kernel_rfl) (RT.laidWorld_met os _ (by kernel_rfl) (by kernel_rfl) (by kernel_rfl) (by kernel_rfl) (by kernel_rfl))) ?_
  intro W base args ds gs before hval hW hcnd hsz hL _
  exact law_rowG laidOut RT.skywaykeep3_ResolveAll.ok (fun k => rfl) (ts := [36, 38]) (n := 20) (tb := 4) (by rw [Tryz.params5]) (by kernel_rfl) rfl (by kernel_rfl) rfl (by kernel_rfl) (by kernel_rfl) (fun ds h => by match ds, h with | [_, _], _ => exact ⟨rfl, rfl, rfl⟩) RT.ResolveAll_law W (RT.glob_ok hL) base args ds gs before hval hW hsz
theorem row : Rows.ResolveAllSaid :=
  OpenClaim.holds_of_wide 5 Tryz.f5 rfl rfl rfl rfl rfl rfl rfl ⟨rfl, rfl, rfl, rfl, rfl⟩ rfl rfl rfl rfl rfl (by kernel_rfl) Tryz.func5 (by kernel_rfl)
    (of_decide_eq_true (by kernel_rfl)) (by unfold Func.isWrapper; first | (rw [if_pos (by decide +kernel)]; kernel_rfl) | (rw [if_neg (by decide +kernel)]; exact ⟨rfl, rfl⟩))
    (fun os started H enc _ => lifted os started H enc)
theorem proved : Rows.ResolveAllCardSaid :=
  Claim7.holds_tied_plain_at .later [] [.data, .data, .data, .data, .data] true (true, "45658628047af929697b36e5339af5afca00b3210b491c5b6916f6bb3e3cfc95") false row (fun _ h => by cases h) (by kernel_rfl) (fun _ h => by cases h) resolveAll_row_tie rfl ⟨rfl, rfl⟩ (by kernel_rfl) rfl
    (fun f fn hf hfn => by
      obtain rfl : f = 5 := (Option.some.inj ((show Tryz.prog.funcNamed "skyway/skywaykeep3.ResolveAll" = some 5 by kernel_rfl).symm.trans hf)).symm
      obtain rfl : fn = Tryz.f5 := (Option.some.inj (Tryz.func5.symm.trans hfn)).symm
      exact ⟨by kernel_rfl, fun j t ht => by
        rw [Tryz.params5] at ht
        have h : t ∈ [36, 38] := by
          rw [← Array.getElem?_toList] at ht
          exact List.mem_of_getElem? ht
        have hs : ∀ u ∈ [36, 38], Tryz.prog.wantsStandIn u = false := by
          simp only [List.forall_mem_cons]
          exact ⟨by kernel_rfl, by kernel_rfl, fun _ h => by cases h⟩
        exact hs t h⟩)
    (by kernel_rfl)
#print axioms proved
end Go.Proofs.YtpgnhohclpjfiaaGreatDoor.resolveAll
