/- soffitlaw05.RangesCheck returns true at every api.Program, and the input reads behind the call as it did before. No condition. -/
import Derived.Test.YtgcplcffejbniaaGreatRgLift
import Derived.Test.YtgcplcffejbniaaGreatRgLawCheck
namespace Go.Proofs.YtgcplcffejbniaaGreat
open Go.Joins Go.ChangeShapes Go.WideShapes Go.ChangeAt Go.RowKit Go.Deep

set_option maxRecDepth 100000 in
theorem rangesCheck_lifted (os : Os) (started : os.Started) (H : Type) (enc : TypeId × Value → H) :
    ReturnsInHanded {} Tryz.checked os 3 .any (Rows.rangesCheckSpec.pre6 enc Tryz.prog Tryz.f3 Rows.rangesCheckRow.domain false) (Rows.rangesCheckSpec.post enc Tryz.prog Tryz.f3 false true false false) :=
  lift_r started (by kernel_rfl) Tryz.func3 rfl rfl rfl (fun _ => rfl)
    (ChangeSpec.witness6 (enc := enc) (C := Tryz.checked) false ⟨#[], #[.agg #[.slice none 0 0, .slice none 0 0]], []⟩ 8 (by kernel_rfl) (by kernel_rfl) (by kernel_rfl) (by kernel_rfl))
    rgLawCheck_any

theorem rangesCheck_holds : Rows.RangesCheckSaid :=
  OpenClaim.holds_of_wide 3 Tryz.f3 rfl rfl rfl rfl rfl rfl rfl ⟨rfl, rfl, rfl, rfl, rfl⟩ rfl rfl rfl rfl rfl (by kernel_rfl) Tryz.func3 (by kernel_rfl)
    (of_decide_eq_true (by kernel_rfl)) (by unfold Func.isWrapper; first | (rw [if_pos (by decide +kernel)]; kernel_rfl) | (rw [if_neg (by decide +kernel)]; exact ⟨rfl, rfl⟩))
    (fun os started H enc _ => rangesCheck_lifted os started H enc)
end Go.Proofs.YtgcplcffejbniaaGreat
