/- soffitlaw05.RangesWraps returns true at every api.Program and int, and the inputs read behind the call as they did before. No condition. -/
import Derived.Test.YtgcplcffejbniaaRgLift
import Derived.Test.YtgcplcffejbniaaRgLawWraps
namespace Go.Proofs.Ytgcplcffejbniaa
open Go.Joins Go.ChangeShapes Go.WideShapes Go.ChangeAt Go.RowKit Go.Deep

set_option maxRecDepth 100000 in
theorem rangesWraps_lifted (os : Os) (started : os.Started) (H : Type) (enc : TypeId × Value → H) :
    ReturnsInHanded {} Try.checked os 8 .any (Rows.rangesWrapsSpec.pre6 enc Try.prog Try.f8 Rows.rangesWrapsRow.domain false) (Rows.rangesWrapsSpec.post enc Try.prog Try.f8 false true false false) :=
  lift_r_int started (by kernel_rfl) Try.func8 rfl rfl rfl (fun _ _ => rfl)
    (ChangeSpec.witness6 (enc := enc) (C := Try.checked) false ⟨#[], #[.agg #[.slice none 0 0, .slice none 0 0], .int .i64 0], []⟩ 8 (by kernel_rfl) (by kernel_rfl) (by kernel_rfl) (by kernel_rfl))
    rgLawWraps_any

theorem rangesWraps_holds : Rows.RangesWrapsSaid :=
  OpenClaim.holds_of_wide 8 Try.f8 rfl rfl rfl rfl rfl rfl rfl ⟨rfl, rfl, rfl, rfl, rfl⟩ rfl rfl rfl rfl rfl (by kernel_rfl) Try.func8 (by kernel_rfl)
    (of_decide_eq_true (by kernel_rfl)) (by unfold Func.isWrapper; first | (rw [if_pos (by decide +kernel)]; kernel_rfl) | (rw [if_neg (by decide +kernel)]; exact ⟨rfl, rfl⟩))
    (fun os started H enc _ => rangesWraps_lifted os started H enc)
end Go.Proofs.Ytgcplcffejbniaa
