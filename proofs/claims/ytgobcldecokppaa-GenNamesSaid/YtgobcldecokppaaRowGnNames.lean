/- soffitlaw22.GenNames returns true. No condition. -/
import Derived.Test.YtgobcldecokppaaTrLift
import Derived.Test.YtgobcldecokppaaGnLaw
namespace Go.Proofs.Ytgobcldecokppaa
open Go.Joins Go.ChangeShapes Go.WideShapes Go.ChangeAt Go.RowKit Go.Deep

set_option maxRecDepth 100000 in
theorem genNames_lifted (os : Os) (started : os.Started) (H : Type) (enc : TypeId × Value → H) :
    ReturnsInHanded {} Try.checked os 3 .any (Rows.genNamesSpec.pre6 enc Try.prog Try.f3 Rows.genNamesRow.domain false) (Rows.genNamesSpec.post enc Try.prog Try.f3 false true false false) :=
  lift_none started (by kernel_rfl) Try.func3 rfl rfl rfl rfl
    (ChangeSpec.witness6 (enc := enc) (C := Try.checked) false ⟨#[], #[], []⟩ 8 (by kernel_rfl) (by kernel_rfl) (by kernel_rfl) (by kernel_rfl))
    gnLawNames_any

theorem genNames_holds : Rows.GenNamesSaid :=
  OpenClaim.holds_of_wide 3 Try.f3 rfl rfl rfl rfl rfl rfl rfl ⟨rfl, rfl, rfl, rfl, rfl⟩ rfl rfl rfl rfl rfl (by kernel_rfl) Try.func3 (by kernel_rfl)
    (of_decide_eq_true (by kernel_rfl)) (by unfold Func.isWrapper; first | (rw [if_pos (by decide +kernel)]; kernel_rfl) | (rw [if_neg (by decide +kernel)]; exact ⟨rfl, rfl⟩))
    (fun os started H enc _ => genNames_lifted os started H enc)
end Go.Proofs.Ytgobcldecokppaa
