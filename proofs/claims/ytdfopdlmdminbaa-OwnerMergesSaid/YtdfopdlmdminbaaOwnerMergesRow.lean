/- What is proved here: the row of the law OwnerMerges: for every input the law returns true, and the input reads behind the call as it did. Conditions: none beyond the row's own. -/
import Derived.Test.YtdfopdlmdminbaaRows
import Derived.Test.YtdfopdlmdminbaaOwnD
import Derived.ProofKit
namespace Go.Proofs.Ytdfopdlmdminbaa.ownerMerges
open Go Go.R Go.Proofs
theorem own : ownKnob Try.prog.godebug = none := by kernel_rfl
theorem laidOut : laidOutB Try.prog = true := by kernel_rfl
set_option maxRecDepth 100000 in
theorem lifted (os : Os) (started : os.Started) (H : Type) (enc : TypeId × Value → H) :
    ReturnsInHanded {} Try.checked os 14 .any (Rows.ownerMergesSpec.pre6 enc Try.prog Try.f14 Rows.ownerMergesRow.domain false) (Rows.ownerMergesSpec.post enc Try.prog Try.f14 false true false false) := by
  refine returnsInHanded_of_change_sized (C := Try.checked) own started (by kernel_rfl) Try.func14 (ChangeSpec.witness6 (enc := enc) (C := Try.checked) false ⟨#[], #[.slice none 0 0, .string ByteArray.empty, .string ByteArray.empty], []⟩ 8 (by kernel_rfl) (by kernel_rfl) (by kernel_rfl) (by kernel_rfl)) ?_
  intro W base args ds gs before hval hW hcnd hsz _
  exact law_row laidOut RT.skywaykeep3_OwnerMerges.ok (fun k => rfl) (ts := [104, 9, 9]) (n := 20) (tb := 4) (by rw [Try.params14]) (by kernel_rfl) rfl (by kernel_rfl) rfl (by kernel_rfl) (by kernel_rfl) (fun ds h => by match ds, h with | [_, _, _], _ => exact ⟨rfl, rfl, rfl⟩) RT.OwnerMerges_law W base args ds gs before hval hW hsz
theorem proved : Rows.OwnerMergesSaid :=
  OpenClaim.holds_of_wide 14 Try.f14 rfl rfl rfl rfl rfl rfl rfl ⟨rfl, rfl, rfl, rfl, rfl⟩ rfl rfl rfl rfl rfl (by kernel_rfl) Try.func14 (by kernel_rfl)
    (of_decide_eq_true (by kernel_rfl)) (by unfold Func.isWrapper; first | (rw [if_pos (by decide +kernel)]; kernel_rfl) | (rw [if_neg (by decide +kernel)]; exact ⟨rfl, rfl⟩))
    (fun os started H enc _ => lifted os started H enc)
#print axioms proved
end Go.Proofs.Ytdfopdlmdminbaa.ownerMerges
