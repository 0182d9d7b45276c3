/- soffitlaw06.MeanSums returns true at every two int64s. No condition. -/
import Derived.Test.YtgcplcffejbniaaMnLift
import Derived.Test.YtgcplcffejbniaaMnLawSums
namespace Go.Proofs.Ytgcplcffejbniaa
open Go.Joins Go.ChangeShapes Go.WideShapes Go.ChangeAt Go.RowKit Go.Deep

set_option maxRecDepth 100000 in
theorem meanSums_lifted (os : Os) (started : os.Started) (H : Type) (enc : TypeId × Value → H) :
    ReturnsInHanded {} Try.checked os 12 .any (Rows.meanSumsSpec.pre6 enc Try.prog Try.f12 Rows.meanSumsRow.domain false) (Rows.meanSumsSpec.post enc Try.prog Try.f12 false true false false) :=
  lift_int64s started (by kernel_rfl) Try.func12 rfl rfl rfl (fun _ _ => rfl)
    (ChangeSpec.witness6 (enc := enc) (C := Try.checked) false ⟨#[], #[.int .i64 0, .int .i64 0], []⟩ 8 (by kernel_rfl) (by kernel_rfl) (by kernel_rfl) (by kernel_rfl))
    (fun W a k wa => mnLawSums_any a k W (in64_of_wf wa))

theorem meanSums_holds : Rows.MeanSumsSaid :=
  OpenClaim.holds_of_wide 12 Try.f12 rfl rfl rfl rfl rfl rfl rfl ⟨rfl, rfl, rfl, rfl, rfl⟩ rfl rfl rfl rfl rfl (by kernel_rfl) Try.func12 (by kernel_rfl)
    (of_decide_eq_true (by kernel_rfl)) (by unfold Func.isWrapper; first | (rw [if_pos (by decide +kernel)]; kernel_rfl) | (rw [if_neg (by decide +kernel)]; exact ⟨rfl, rfl⟩))
    (fun os started H enc _ => meanSums_lifted os started H enc)
end Go.Proofs.Ytgcplcffejbniaa
