/- What is proved here: the row of the law EffectPaces and its tied card: for every input the law returns true, and the input reads behind the call as it did, where the listed package variables read as listed; the tie to the program's text is the given one. Conditions: none beyond the row's own. -/
import Derived.Test.YtpgnhohclpjfiaaDoorRows
import Derived.Test.YtpgnhohclpjfiaaDoorCards
import Derived.Test.YtpgnhohclpjfiaaDoorTie
import Derived.Test.YtpgnhohclpjfiaaDoorEffE
import Derived.Test.YtpgnhohclpjfiaaDoorEfL
import Derived.ProofKit
import Derived.SevenTiedAt
namespace Go.Proofs.YtpgnhohclpjfiaaDoor.effectPaces
open Go Go.R Go.Proofs
theorem own : ownKnob Tryd.prog.godebug = none := by kernel_rfl
theorem laidOut : laidOutB Tryd.prog = true := by kernel_rfl
set_option maxRecDepth 100000 in
theorem lifted (os : Os) (started : os.Started) (H : Type) (enc : TypeId × Value → H) :
    ReturnsInHanded {} Tryd.checked os 7 .any (fun w args => (Rows.effectPacesSpec.pre enc Tryd.prog Tryd.f7 Rows.effectPacesRow.domain false w args ∧ laidMetH Tryd.prog RT.laid w) ∧ sizedMet enc Tryd.prog Tryd.f7 (OpenSpec.ofChange Rows.effectPacesSpec) false w args)
      (Rows.effectPacesSpec.post enc Tryd.prog Tryd.f7 false true false false) := by
  refine returnsInHanded_of_change_and (C := Tryd.checked) (X := fun w _ => laidMetH Tryd.prog RT.laid w) (fun _ _ _ hh h => laidMet.of_heap (l := RT.laid) hh h) own started (by kernel_rfl) Tryd.func7
    (ChangeSpec.witness_at (enc := enc) (C := Tryd.checked) (os := os) (X := fun w _ => laidMetH Tryd.prog RT.laid w) false (RT.laidWorld os) #[.slice none 0 0, .string ByteArray.empty, .int .i64 0, .int .i64 0, .agg #[.string ByteArray.empty, .int .i64 0, .int .i64 0, .int .i64 0, .int .i64 0, .int .i64 0, .int .i64 0]] 8 rfl (by kernel_rfl) (by kernel_rfl) (by kernel_rfl) (by kernel_rfl) (by kernel_rfl) (RT.laidWorld_met os _ (by kernel_rfl) (by kernel_rfl) (by kernel_rfl) (by kernel_rfl) (by kernel_rfl))) ?_
  intro W base args ds gs before hval hW hcnd hsz hL _
  exact law_rowG laidOut RT.skywaykeep3_EffectPaces.ok (fun k => rfl) (ts := [23, 9, 3, 3, 27]) (n := 20) (tb := 4) (by rw [Tryd.params7]) (by kernel_rfl) rfl (by kernel_rfl) rfl (by kernel_rfl) (by kernel_rfl) (fun ds h => by match ds, h with | [_, _, _, _, _], _ => exact ⟨rfl, rfl, rfl⟩) RT.EffectPaces_law W (RT.glob_ok hL) base args ds gs before hval hW hsz
theorem row : Rows.EffectPacesSaid :=
  OpenClaim.holds_of_wide 7 Tryd.f7 rfl rfl rfl rfl rfl rfl rfl ⟨rfl, rfl, rfl, rfl, rfl⟩ rfl rfl rfl rfl rfl (by kernel_rfl) Tryd.func7 (by kernel_rfl)
    (of_decide_eq_true (by kernel_rfl)) (by unfold Func.isWrapper; first | (rw [if_pos (by decide +kernel)]; kernel_rfl) | (rw [if_neg (by decide +kernel)]; exact ⟨rfl, rfl⟩))
    (fun os started H enc _ => lifted os started H enc)
theorem proved : Rows.EffectPacesCardSaid :=
  Claim7.holds_tied_plain_at .later [] [.data, .data, .data, .data, .data] true (true, "90afd5674cd10811ef6f42bdcb0c331d3def648014a5295f262c9843a3e8d3a5") false row (fun _ h => by cases h) (by kernel_rfl) (fun _ h => by cases h) effectPaces_row_tie rfl ⟨rfl, rfl⟩ (by kernel_rfl) rfl
    (fun f fn hf hfn => by
      obtain rfl : f = 7 := (Option.some.inj ((show Tryd.prog.funcNamed "skyway/skywaykeep3.EffectPaces" = some 7 by kernel_rfl).symm.trans hf)).symm
      obtain rfl : fn = Tryd.f7 := (Option.some.inj (Tryd.func7.symm.trans hfn)).symm
      exact ⟨by kernel_rfl, fun j t ht => by
        rw [Tryd.params7] at ht
        have h : t ∈ [23, 9, 3, 3, 27] := by
          rw [← Array.getElem?_toList] at ht
          exact List.mem_of_getElem? ht
        have hs : ∀ u ∈ [23, 9, 3, 3, 27], Tryd.prog.wantsStandIn u = false := by
          simp only [List.forall_mem_cons]
          exact ⟨by kernel_rfl, by kernel_rfl, by kernel_rfl, by kernel_rfl, by kernel_rfl, fun _ h => by cases h⟩
        exact hs t h⟩)
    (by kernel_rfl)
#print axioms proved
end Go.Proofs.YtpgnhohclpjfiaaDoor.effectPaces
