/- For every input api.Func and two ints, soffitlaw13.DomAsks returns true, and the inputs read behind the call as they did before. No condition. -/
import Derived.Test.YtggkeodoenhmoaaLift
import Derived.Test.YtggkeodoenhmoaaLawAsks
namespace Go.Proofs.Ytggkeodoenhmoaa
open Go.Joins Go.ChangeShapes Go.WideShapes Go.ChangeAt Go.RowKit Go.Deep

set_option maxRecDepth 100000 in
theorem domAsks_lifted (os : Os) (started : os.Started) (H : Type) (enc : TypeId × Value → H) :
    ReturnsInHanded {} Try.checked os 8 .any (Rows.domAsksSpec.pre6 enc Try.prog Try.f8 Rows.domAsksRow.domain false) (Rows.domAsksSpec.post enc Try.prog Try.f8 false true false false) :=
  lift_func_int_int started (by kernel_rfl) Try.func8 rfl rfl rfl (fun _ _ _ => rfl)
    (ChangeSpec.witness6 (enc := enc) (C := Try.checked) false ⟨#[], #[.agg #[.string ByteArray.empty, .slice none 0 0, .int .i64 0, .int .i64 0, .slice none 0 0], .int .i64 0, .int .i64 0], []⟩ 8 (by kernel_rfl) (by kernel_rfl) (by kernel_rfl) (by kernel_rfl))
    (fun W s vp regs words vc params code j k hf _ _ => lawAsks_any s vp regs words vc params code j k W hf.nCode hf.nParams hf.hcode hf.hparams)

theorem domAsks_holds : Rows.DomAsksSaid :=
  OpenClaim.holds_of_wide 8 Try.f8 rfl rfl rfl rfl rfl rfl rfl ⟨rfl, rfl, rfl, rfl, rfl⟩ rfl rfl rfl rfl rfl (by kernel_rfl) Try.func8 (by kernel_rfl)
    (of_decide_eq_true (by kernel_rfl)) (by unfold Func.isWrapper; first | (rw [if_pos (by decide +kernel)]; kernel_rfl) | (rw [if_neg (by decide +kernel)]; exact ⟨rfl, rfl⟩))
    (fun os started H enc _ => domAsks_lifted os started H enc)
end Go.Proofs.Ytggkeodoenhmoaa
