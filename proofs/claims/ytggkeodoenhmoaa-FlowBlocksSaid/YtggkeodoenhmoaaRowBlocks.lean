/- For every input api.Func, soffitlaw12.FlowBlocks returns true, and the input reads behind the call as it did before. No condition. -/
import Derived.Test.YtggkeodoenhmoaaLift
import Derived.Test.YtggkeodoenhmoaaLawBlocks
namespace Go.Proofs.Ytggkeodoenhmoaa
open Go.Joins Go.ChangeShapes Go.WideShapes Go.ChangeAt Go.RowKit Go.Deep

set_option maxRecDepth 100000 in
theorem flowBlocks_lifted (os : Os) (started : os.Started) (H : Type) (enc : TypeId × Value → H) :
    ReturnsInHanded {} Try.checked os 6 .any (Rows.flowBlocksSpec.pre6 enc Try.prog Try.f6 Rows.flowBlocksRow.domain false) (Rows.flowBlocksSpec.post enc Try.prog Try.f6 false true false false) :=
  lift_func started (by kernel_rfl) Try.func6 rfl rfl rfl (fun _ => rfl)
    (ChangeSpec.witness6 (enc := enc) (C := Try.checked) false ⟨#[], #[.agg #[.string ByteArray.empty, .slice none 0 0, .int .i64 0, .int .i64 0, .slice none 0 0]], []⟩ 8 (by kernel_rfl) (by kernel_rfl) (by kernel_rfl) (by kernel_rfl))
    (fun W s vp regs words vc _ code hf => lawBlocks_any s vp regs words vc code W hf.nCode hf.hcode)

theorem flowBlocks_holds : Rows.FlowBlocksSaid :=
  OpenClaim.holds_of_wide 6 Try.f6 rfl rfl rfl rfl rfl rfl rfl ⟨rfl, rfl, rfl, rfl, rfl⟩ rfl rfl rfl rfl rfl (by kernel_rfl) Try.func6 (by kernel_rfl)
    (of_decide_eq_true (by kernel_rfl)) (by unfold Func.isWrapper; first | (rw [if_pos (by decide +kernel)]; kernel_rfl) | (rw [if_neg (by decide +kernel)]; exact ⟨rfl, rfl⟩))
    (fun os started H enc _ => flowBlocks_lifted os started H enc)
end Go.Proofs.Ytggkeodoenhmoaa
