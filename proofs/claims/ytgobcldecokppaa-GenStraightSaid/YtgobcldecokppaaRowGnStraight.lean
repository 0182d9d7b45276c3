/- soffitlaw22.GenStraight returns true at every api.Program and int, and the inputs read behind the call as they did before. No condition. -/
import Derived.Test.YtgobcldecokppaaRgLift
import Derived.Test.YtgobcldecokppaaGnLawS
namespace Go.Proofs.Ytgobcldecokppaa
open Go.Joins Go.ChangeShapes Go.WideShapes Go.ChangeAt Go.RowKit Go.Deep

set_option maxRecDepth 100000 in
theorem genStraight_lifted (os : Os) (started : os.Started) (H : Type) (enc : TypeId × Value → H) :
    ReturnsInHanded {} Try.checked os 5 .any (Rows.genStraightSpec.pre6 enc Try.prog Try.f5 Rows.genStraightRow.domain false) (Rows.genStraightSpec.post enc Try.prog Try.f5 false true false false) :=
  lift_r_int started (by kernel_rfl) Try.func5 rfl rfl rfl (fun _ _ => rfl)
    (ChangeSpec.witness6 (enc := enc) (C := Try.checked) false ⟨#[], #[.agg #[.slice none 0 0, .slice none 0 0], .int .i64 0], []⟩ 8 (by kernel_rfl) (by kernel_rfl) (by kernel_rfl) (by kernel_rfl))
    gnLawStraight_any

theorem genStraight_holds : Rows.GenStraightSaid :=
  OpenClaim.holds_of_wide 5 Try.f5 rfl rfl rfl rfl rfl rfl rfl ⟨rfl, rfl, rfl, rfl, rfl⟩ rfl rfl rfl rfl rfl (by kernel_rfl) Try.func5 (by kernel_rfl)
    (of_decide_eq_true (by kernel_rfl)) (by unfold Func.isWrapper; first | (rw [if_pos (by decide +kernel)]; kernel_rfl) | (rw [if_neg (by decide +kernel)]; exact ⟨rfl, rfl⟩))
    (fun os started H enc _ => genStraight_lifted os started H enc)
end Go.Proofs.Ytgobcldecokppaa
