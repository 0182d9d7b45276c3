/- For every input api.Func, soffitlaw13.DomTree returns true, and the input reads behind the call as it did before. No condition. -/
import Derived.Test.YtggkeodoenhmoaaLift
import Derived.Test.YtggkeodoenhmoaaLawTree
namespace Go.Proofs.Ytggkeodoenhmoaa
open Go.Joins Go.ChangeShapes Go.WideShapes Go.ChangeAt Go.RowKit Go.Deep

set_option maxRecDepth 100000 in
theorem domTree_lifted (os : Os) (started : os.Started) (H : Type) (enc : TypeId × Value → H) :
    ReturnsInHanded {} Try.checked os 9 .any (Rows.domTreeSpec.pre6 enc Try.prog Try.f9 Rows.domTreeRow.domain false) (Rows.domTreeSpec.post enc Try.prog Try.f9 false true false false) :=
  lift_func started (by kernel_rfl) Try.func9 rfl rfl rfl (fun _ => rfl)
    (ChangeSpec.witness6 (enc := enc) (C := Try.checked) false ⟨#[], #[.agg #[.string ByteArray.empty, .slice none 0 0, .int .i64 0, .int .i64 0, .slice none 0 0]], []⟩ 8 (by kernel_rfl) (by kernel_rfl) (by kernel_rfl) (by kernel_rfl))
    (fun W s vp regs words vc _ code hf => lawTree_any s vp regs words vc code W hf.nCode hf.hcode)

theorem domTree_holds : Rows.DomTreeSaid :=
  OpenClaim.holds_of_wide 9 Try.f9 rfl rfl rfl rfl rfl rfl rfl ⟨rfl, rfl, rfl, rfl, rfl⟩ rfl rfl rfl rfl rfl (by kernel_rfl) Try.func9 (by kernel_rfl)
    (of_decide_eq_true (by kernel_rfl)) (by unfold Func.isWrapper; first | (rw [if_pos (by decide +kernel)]; kernel_rfl) | (rw [if_neg (by decide +kernel)]; exact ⟨rfl, rfl⟩))
    (fun os started H enc _ => domTree_lifted os started H enc)
end Go.Proofs.Ytggkeodoenhmoaa
