/- For every input api.Func and int, soffitlaw13.DomEdges returns true, and the inputs read behind the call as they did before. No condition. -/
import Derived.Test.YtggkeodoenhmoaaLift
import Derived.Test.YtggkeodoenhmoaaEdgesDom
namespace Go.Proofs.Ytggkeodoenhmoaa
open Go.Joins Go.ChangeShapes Go.WideShapes Go.ChangeAt Go.RowKit Go.Deep

set_option maxRecDepth 100000 in
theorem domEdges_lifted (os : Os) (started : os.Started) (H : Type) (enc : TypeId × Value → H) :
    ReturnsInHanded {} Try.checked os 11 .any (Rows.domEdgesSpec.pre6 enc Try.prog Try.f11 Rows.domEdgesRow.domain false) (Rows.domEdgesSpec.post enc Try.prog Try.f11 false true false false) :=
  lift_func_int started (by kernel_rfl) Try.func11 rfl rfl rfl (fun _ _ => rfl)
    (ChangeSpec.witness6 (enc := enc) (C := Try.checked) false ⟨#[], #[.agg #[.string ByteArray.empty, .slice none 0 0, .int .i64 0, .int .i64 0, .slice none 0 0], .int .i64 0], []⟩ 8 (by kernel_rfl) (by kernel_rfl) (by kernel_rfl) (by kernel_rfl))
    (fun W s vp regs words vc _ code k hf _ => lawEdgesDom_any s vp regs words vc code k W hf.nCode hf.hcode)

theorem domEdges_holds : Rows.DomEdgesSaid :=
  OpenClaim.holds_of_wide 11 Try.f11 rfl rfl rfl rfl rfl rfl rfl ⟨rfl, rfl, rfl, rfl, rfl⟩ rfl rfl rfl rfl rfl (by kernel_rfl) Try.func11 (by kernel_rfl)
    (of_decide_eq_true (by kernel_rfl)) (by unfold Func.isWrapper; first | (rw [if_pos (by decide +kernel)]; kernel_rfl) | (rw [if_neg (by decide +kernel)]; exact ⟨rfl, rfl⟩))
    (fun os started H enc _ => domEdges_lifted os started H enc)
end Go.Proofs.Ytggkeodoenhmoaa
