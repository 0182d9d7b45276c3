/- soffitlaw05.RangesAhead returns true at every api.Program, int and bool, and the inputs read behind the call as they did before. No condition. -/
import Derived.Test.YtgcplcffejbniaaRgLift
import Derived.Test.YtgcplcffejbniaaRgLawAhead
namespace Go.Proofs.Ytgcplcffejbniaa
open Go.Joins Go.ChangeShapes Go.WideShapes Go.ChangeAt Go.RowKit Go.Deep

set_option maxRecDepth 100000 in
theorem rangesAhead_lifted (os : Os) (started : os.Started) (H : Type) (enc : TypeId × Value → H) :
    ReturnsInHanded {} Try.checked os 4 .any (Rows.rangesAheadSpec.pre6 enc Try.prog Try.f4 Rows.rangesAheadRow.domain false) (Rows.rangesAheadSpec.post enc Try.prog Try.f4 false true false false) :=
  lift_r_int_bool started (by kernel_rfl) Try.func4 rfl rfl rfl (fun _ _ _ => rfl)
    (ChangeSpec.witness6 (enc := enc) (C := Try.checked) false ⟨#[], #[.agg #[.slice none 0 0, .slice none 0 0], .int .i64 0, .bool false], []⟩ 8 (by kernel_rfl) (by kernel_rfl) (by kernel_rfl) (by kernel_rfl))
    rgLawAhead_any

theorem rangesAhead_holds : Rows.RangesAheadSaid :=
  OpenClaim.holds_of_wide 4 Try.f4 rfl rfl rfl rfl rfl rfl rfl ⟨rfl, rfl, rfl, rfl, rfl⟩ rfl rfl rfl rfl rfl (by kernel_rfl) Try.func4 (by kernel_rfl)
    (of_decide_eq_true (by kernel_rfl)) (by unfold Func.isWrapper; first | (rw [if_pos (by decide +kernel)]; kernel_rfl) | (rw [if_neg (by decide +kernel)]; exact ⟨rfl, rfl⟩))
    (fun os started H enc _ => rangesAhead_lifted os started H enc)
end Go.Proofs.Ytgcplcffejbniaa
