/- soffitlaw06.MeanNames returns true. No condition. -/
import Derived.Test.YtgcplcffejbniaaTrLift
import Derived.Test.YtgcplcffejbniaaMnLawSums
namespace Go.Proofs.Ytgcplcffejbniaa
open Go.Joins Go.ChangeShapes Go.WideShapes Go.ChangeAt Go.RowKit Go.Deep

set_option maxRecDepth 100000 in
theorem meanNames_lifted (os : Os) (started : os.Started) (H : Type) (enc : TypeId × Value → H) :
    ReturnsInHanded {} Try.checked os 9 .any (Rows.meanNamesSpec.pre6 enc Try.prog Try.f9 Rows.meanNamesRow.domain false) (Rows.meanNamesSpec.post enc Try.prog Try.f9 false true false false) :=
  lift_none started (by kernel_rfl) Try.func9 rfl rfl rfl rfl
    (ChangeSpec.witness6 (enc := enc) (C := Try.checked) false ⟨#[], #[], []⟩ 8 (by kernel_rfl) (by kernel_rfl) (by kernel_rfl) (by kernel_rfl))
    mnLawNames_any

theorem meanNames_holds : Rows.MeanNamesSaid :=
  OpenClaim.holds_of_wide 9 Try.f9 rfl rfl rfl rfl rfl rfl rfl ⟨rfl, rfl, rfl, rfl, rfl⟩ rfl rfl rfl rfl rfl (by kernel_rfl) Try.func9 (by kernel_rfl)
    (of_decide_eq_true (by kernel_rfl)) (by unfold Func.isWrapper; first | (rw [if_pos (by decide +kernel)]; kernel_rfl) | (rw [if_neg (by decide +kernel)]; exact ⟨rfl, rfl⟩))
    (fun os started H enc _ => meanNames_lifted os started H enc)
end Go.Proofs.Ytgcplcffejbniaa
