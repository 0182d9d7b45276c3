/- soffitlaw04.NamesAhead returns true at every api.Program and int, and the inputs read behind the call as they did before. No condition. -/
import Derived.Test.YtneibcpgengdnaaTrLift
import Derived.Test.YtneibcpgengdnaaNmLawAhead
namespace Go.Proofs.Ytneibcpgengdnaa
open Go.Joins Go.ChangeShapes Go.WideShapes Go.ChangeAt Go.RowKit Go.Deep

set_option maxRecDepth 100000 in
theorem namesAhead_lifted (os : Os) (started : os.Started) (H : Type) (enc : TypeId × Value → H) :
    ReturnsInHanded {} Try.checked os 6 .any (Rows.namesAheadSpec.pre6 enc Try.prog Try.f6 Rows.namesAheadRow.domain false) (Rows.namesAheadSpec.post enc Try.prog Try.f6 false true false false) :=
  lift_prog_int started (by kernel_rfl) Try.func6 rfl rfl rfl (fun _ _ => rfl)
    (ChangeSpec.witness6 (enc := enc) (C := Try.checked) false ⟨#[], #[.agg #[.slice none 0 0, .slice none 0 0], .int .i64 0], []⟩ 8 (by kernel_rfl) (by kernel_rfl) (by kernel_rfl) (by kernel_rfl))
    (fun W p vw vf vp vb k h _ => lawAhead_any W p vw vf vp vb k h)

theorem namesAhead_holds : Rows.NamesAheadSaid :=
  OpenClaim.holds_of_wide 6 Try.f6 rfl rfl rfl rfl rfl rfl rfl ⟨rfl, rfl, rfl, rfl, rfl⟩ rfl rfl rfl rfl rfl (by kernel_rfl) Try.func6 (by kernel_rfl)
    (of_decide_eq_true (by kernel_rfl)) (by unfold Func.isWrapper; first | (rw [if_pos (by decide +kernel)]; kernel_rfl) | (rw [if_neg (by decide +kernel)]; exact ⟨rfl, rfl⟩))
    (fun os started H enc _ => namesAhead_lifted os started H enc)
end Go.Proofs.Ytneibcpgengdnaa
