/- What is proved here: the row of the law EffectBefore and its tied card: for every input the law returns true, and the input reads behind the call as it did, where the listed package variables read as listed; the tie to the program's text is the given one. Conditions: none beyond the row's own. -/
import Derived.Test.YtdpchhbbmlhklaaDoorRows
import Derived.Test.YtdpchhbbmlhklaaDoorCards
import Derived.Test.YtdpchhbbmlhklaaDoorTie
import Derived.Test.YtdpchhbbmlhklaaDoorEbH
import Derived.Test.YtdpchhbbmlhklaaDoorEbL
import Derived.ProofKit
import Derived.SevenTiedAt
namespace Go.Proofs.YtdpchhbbmlhklaaDoor.effectBefore
open Go Go.R Go.Proofs
theorem own : ownKnob Tryd.prog.godebug = none := by kernel_rfl
theorem laidOut : laidOutB Tryd.prog = true := by kernel_rfl
set_option maxRecDepth 100000 in
theorem lifted (os : Os) (started : os.Started) (H : Type) (enc : TypeId × Value → H) :
    ReturnsInHanded {} Tryd.checked os 3 .any (fun w args => (Rows.effectBeforeSpec.pre enc Tryd.prog Tryd.f3 Rows.effectBeforeRow.domain false w args ∧ laidMetH Tryd.prog RT.laid w) ∧ sizedMet enc Tryd.prog Tryd.f3 (OpenSpec.ofChange Rows.effectBeforeSpec) false w args)
      (Rows.effectBeforeSpec.post enc Tryd.prog Tryd.f3 false true false false) := by
  refine returnsInHanded_of_change_and (C := Tryd.checked) (X := fun w _ => laidMetH Tryd.prog RT.laid w) (fun _ _ _ hh h => laidMet.of_heap (l := RT.laid) hh h) own started (by kernel_rfl) Tryd.func3
    (ChangeSpec.witness_at (enc := enc) (C := Tryd.checked) (os := os) (X := fun w _ => laidMetH Tryd.prog RT.laid w) false (RT.laidWorld os) #[.slice none 0 0, .agg #[.string ByteArray.empty, .int .i64 0, .int .i64 0, .string ByteArray.empty], .int .i64 0, .agg #[.string ByteArray.empty, .int .i64 0, .int .i64 0, .int .i64 0, .int .i64 0, .int .i64 0, .int .i64 0], .agg #[.int .i64 0, .int .i64 0]] 8 (by first | rfl | exact World.laidAll_os _ _ _) (by kernel_rfl) (by kernel_rfl) (by kernel_rfl) (by kernel_rfl) (by kernel_rfl) (RT.laidWorld_met os _)) ?_
  intro W base args ds gs before hval hW hcnd hsz hL _
  exact law_rowG laidOut RT.skywaykeep3_EffectBefore.ok (fun k => rfl) (ts := [23, 25, 3, 27, 29]) (n := 20) (tb := 4) (by rw [Tryd.params3]) (by kernel_rfl) rfl (by kernel_rfl) rfl (by kernel_rfl) (by kernel_rfl) (fun ds h => by match ds, h with | [_, _, _, _, _], _ => exact ⟨rfl, rfl, rfl⟩) RT.EffectBefore_law W (RT.glob_ok hL) base args ds gs before hval hW hsz
theorem row : Rows.EffectBeforeSaid :=
  OpenClaim.holds_of_wide 3 Tryd.f3 rfl rfl rfl rfl rfl rfl rfl ⟨rfl, rfl, rfl, rfl, rfl⟩ rfl rfl rfl rfl rfl (by kernel_rfl) Tryd.func3 (by kernel_rfl)
    (of_decide_eq_true (by kernel_rfl)) (by unfold Func.isWrapper; first | (rw [if_pos (by decide +kernel)]; kernel_rfl) | (rw [if_neg (by decide +kernel)]; exact ⟨rfl, rfl⟩))
    (fun os started H enc _ => lifted os started H enc)
theorem proved : Rows.EffectBeforeCardSaid :=
  Claim7.holds_tied_plain_at .later [] [.data, .data, .data, .data, .data] true (true, "9e2beb9a6b3de8fb133b4900ce432a177f5f2db90a1b877da3d6b8089fe12111") false row (fun _ h => by cases h) (by kernel_rfl) (fun _ h => by cases h) effectBefore_row_tie rfl ⟨rfl, rfl⟩ (by kernel_rfl) rfl
    (fun f fn hf hfn => by
      obtain rfl : f = 3 := (Option.some.inj ((show Tryd.prog.funcNamed "skyway/skywaykeep3.EffectBefore" = some 3 by kernel_rfl).symm.trans hf)).symm
      obtain rfl : fn = Tryd.f3 := (Option.some.inj (Tryd.func3.symm.trans hfn)).symm
      exact ⟨by kernel_rfl, fun j t ht => by
        rw [Tryd.params3] at ht
        have h : t ∈ [23, 25, 3, 27, 29] := by
          rw [← Array.getElem?_toList] at ht
          exact List.mem_of_getElem? ht
        have hs : ∀ u ∈ [23, 25, 3, 27, 29], Tryd.prog.wantsStandIn u = false := by
          simp only [List.forall_mem_cons]
          exact ⟨by kernel_rfl, by kernel_rfl, by kernel_rfl, by kernel_rfl, by kernel_rfl, fun _ h => by cases h⟩
        exact hs t h⟩)
    (by kernel_rfl)
#print axioms proved
end Go.Proofs.YtdpchhbbmlhklaaDoor.effectBefore
