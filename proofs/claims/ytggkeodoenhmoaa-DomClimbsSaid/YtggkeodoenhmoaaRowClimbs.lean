/- For every input api.Func and two ints, soffitlaw13.DomClimbs returns true, and the inputs read behind the call as they did before. No condition. -/
import Derived.Test.YtggkeodoenhmoaaLift
import Derived.Test.YtggkeodoenhmoaaLawClimbs
namespace Go.Proofs.Ytggkeodoenhmoaa
open Go.Joins Go.ChangeShapes Go.WideShapes Go.ChangeAt Go.RowKit Go.Deep

set_option maxRecDepth 100000 in
theorem domClimbs_lifted (os : Os) (started : os.Started) (H : Type) (enc : TypeId × Value → H) :
    ReturnsInHanded {} Try.checked os 10 .any (Rows.domClimbsSpec.pre6 enc Try.prog Try.f10 Rows.domClimbsRow.domain false) (Rows.domClimbsSpec.post enc Try.prog Try.f10 false true false false) :=
  lift_func_int_int started (by kernel_rfl) Try.func10 rfl rfl rfl (fun _ _ _ => rfl)
    (ChangeSpec.witness6 (enc := enc) (C := Try.checked) false ⟨#[], #[.agg #[.string ByteArray.empty, .slice none 0 0, .int .i64 0, .int .i64 0, .slice none 0 0], .int .i64 0, .int .i64 0], []⟩ 8 (by kernel_rfl) (by kernel_rfl) (by kernel_rfl) (by kernel_rfl))
    (fun W s vp regs words vc _ code j k hf _ _ => lawClimbs_any s vp regs words vc code j k W hf.nCode hf.hcode)

theorem domClimbs_holds : Rows.DomClimbsSaid :=
  OpenClaim.holds_of_wide 10 Try.f10 rfl rfl rfl rfl rfl rfl rfl ⟨rfl, rfl, rfl, rfl, rfl⟩ rfl rfl rfl rfl rfl (by kernel_rfl) Try.func10 (by kernel_rfl)
    (of_decide_eq_true (by kernel_rfl)) (by unfold Func.isWrapper; first | (rw [if_pos (by decide +kernel)]; kernel_rfl) | (rw [if_neg (by decide +kernel)]; exact ⟨rfl, rfl⟩))
    (fun os started H enc _ => domClimbs_lifted os started H enc)
end Go.Proofs.Ytggkeodoenhmoaa
