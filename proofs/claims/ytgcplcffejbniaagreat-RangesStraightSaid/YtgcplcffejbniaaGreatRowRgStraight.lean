/- soffitlaw05.RangesStraight returns true at every api.Program, int and bool, and the inputs read behind the call as they did before. No condition. -/
import Derived.Test.YtgcplcffejbniaaGreatRgLift
import Derived.Test.YtgcplcffejbniaaGreatRgLawStraight
namespace Go.Proofs.YtgcplcffejbniaaGreat
open Go.Joins Go.ChangeShapes Go.WideShapes Go.ChangeAt Go.RowKit Go.Deep

set_option maxRecDepth 100000 in
theorem rangesStraight_lifted (os : Os) (started : os.Started) (H : Type) (enc : TypeId × Value → H) :
    ReturnsInHanded {} Tryz.checked os 4 .any (Rows.rangesStraightSpec.pre6 enc Tryz.prog Tryz.f4 Rows.rangesStraightRow.domain false) (Rows.rangesStraightSpec.post enc Tryz.prog Tryz.f4 false true false false) :=
  lift_r_int_bool started (by kernel_rfl) Tryz.func4 rfl rfl rfl (fun _ _ _ => rfl)
    (ChangeSpec.witness6 (enc := enc) (C := Tryz.checked) false ⟨#[], #[.agg #[.slice none 0 0, .slice none 0 0], .int .i64 0, .bool false], []⟩ 8 (by kernel_rfl) (by kernel_rfl) (by kernel_rfl) (by kernel_rfl))
    rgLawStraight_any

theorem rangesStraight_holds : Rows.RangesStraightSaid :=
  OpenClaim.holds_of_wide 4 Tryz.f4 rfl rfl rfl rfl rfl rfl rfl ⟨rfl, rfl, rfl, rfl, rfl⟩ rfl rfl rfl rfl rfl (by kernel_rfl) Tryz.func4 (by kernel_rfl)
    (of_decide_eq_true (by kernel_rfl)) (by unfold Func.isWrapper; first | (rw [if_pos (by decide +kernel)]; kernel_rfl) | (rw [if_neg (by decide +kernel)]; exact ⟨rfl, rfl⟩))
    (fun os started H enc _ => rangesStraight_lifted os started H enc)
end Go.Proofs.YtgcplcffejbniaaGreat
