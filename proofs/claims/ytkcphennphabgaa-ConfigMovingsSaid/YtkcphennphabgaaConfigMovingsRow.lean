/- What is proved here: the row of the law ConfigMovings: for every input the law returns true, and the input reads behind the call as it did. Conditions: none beyond the row's own. -/
import Derived.Test.YtkcphennphabgaaRows
import Derived.Test.YtkcphennphabgaaCgF
import Derived.ProofKit
namespace Go.Proofs.Ytkcphennphabgaa.configMovings
open Go Go.R Go.Proofs
theorem own : ownKnob Try.prog.godebug = none := by kernel_rfl
theorem laidOut : laidOutB Try.prog = true := by kernel_rfl
set_option maxRecDepth 100000 in
theorem lifted (os : Os) (started : os.Started) (H : Type) (enc : TypeId × Value → H) :
    ReturnsInHanded {} Try.checked os 5 .any (Rows.configMovingsSpec.pre6 enc Try.prog Try.f5 Rows.configMovingsRow.domain false) (Rows.configMovingsSpec.post enc Try.prog Try.f5 false true false false) := by
  refine returnsInHanded_of_change_sized (C := Try.checked) own started (by kernel_rfl) Try.func5 (ChangeSpec.witness6 (enc := enc) (C := Try.checked) false ⟨#[], #[.slice none 0 0, .slice none 0 0], []⟩ 8 (by kernel_rfl) (by kernel_rfl) (by kernel_rfl) (by kernel_rfl)) ?_
  intro W base args ds gs before hval hW hcnd hsz _
  exact law_row laidOut RT.skywaykeep3_ConfigMovings.ok (fun k => rfl) (ts := [22, 22]) (n := 20) (tb := 4) (by rw [Try.params5]) (by kernel_rfl) rfl (by kernel_rfl) rfl (by kernel_rfl) (by kernel_rfl) (fun ds h => by match ds, h with | [_, _], _ => exact ⟨rfl, rfl, rfl⟩) RT.ConfigMovings_law W base args ds gs before hval hW hsz
theorem proved : Rows.ConfigMovingsSaid :=
  OpenClaim.holds_of_wide 5 Try.f5 rfl rfl rfl rfl rfl rfl rfl ⟨rfl, rfl, rfl, rfl, rfl⟩ rfl rfl rfl rfl rfl (by kernel_rfl) Try.func5 (by kernel_rfl)
    (of_decide_eq_true (by kernel_rfl)) (by unfold Func.isWrapper; first | (rw [if_pos (by decide +kernel)]; kernel_rfl) | (rw [if_neg (by decide +kernel)]; exact ⟨rfl, rfl⟩))
    (fun os started H enc _ => lifted os started H enc)
#print axioms proved
end Go.Proofs.Ytkcphennphabgaa.configMovings
