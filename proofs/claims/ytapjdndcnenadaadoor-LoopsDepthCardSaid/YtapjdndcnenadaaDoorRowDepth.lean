/- For every input []api.Loop and int, soffitlaw14.LoopsDepth returns true, and the inputs read behind the call as they did before; the one condition: the variable soffit/code.rows reads as its program's text lays it (tied). -/
import Derived.Test.YtapjdndcnenadaaDoorLift14
import Derived.Test.YtapjdndcnenadaaDoorLawDepth
import Derived.Test.YtapjdndcnenadaaDoorTie
import Derived.Test.YtapjdndcnenadaaDoorCards
namespace Go.Proofs.YtapjdndcnenadaaDoor
open Go.Joins Go.ChangeShapes Go.WideShapes Go.ChangeAt Go.RowKit Go.Deep

set_option maxRecDepth 100000 in
theorem loopsDepth_lifted (os : Os) (started : os.Started) (H : Type) (enc : TypeId × Value → H) :
    ReturnsInHanded {} Tryd.checked os 4 .any (fun w args => (Rows.loopsDepthSpec.pre enc Tryd.prog Tryd.f4 Rows.loopsDepthRow.domain false w args ∧ laidMetH Tryd.prog laid2 w) ∧ sizedMet enc Tryd.prog Tryd.f4 (OpenSpec.ofChange Rows.loopsDepthSpec) false w args) (Rows.loopsDepthSpec.post enc Tryd.prog Tryd.f4 false true false false) :=
  lift_loops_int started (by kernel_rfl) Tryd.func4 rfl rfl rfl (fun _ _ => rfl)
    (ChangeSpec.witness_shaped (enc := enc) (C := Tryd.checked) (os := os) (X := fun w _ => laidMetH Tryd.prog laid2 w) false (World.doorLaid Tryd.prog 34 os) #[.slice none 0 0, .int .i64 0] 8 rfl (World.shaped_of_RefB (by kernel_rfl) (by kernel_rfl)) (by kernel_rfl) (by kernel_rfl) (by kernel_rfl) (door_met os _))
    (fun W v l k hl hw => lawDepth_any v l k W hl hw)

theorem loopsDepth_said : Rows.LoopsDepthSaid :=
  OpenClaim.holds_of_wide 4 Tryd.f4 rfl rfl rfl rfl rfl rfl rfl ⟨rfl, rfl, rfl, rfl, rfl⟩ rfl rfl rfl rfl rfl (by kernel_rfl) Tryd.func4 (by kernel_rfl)
    (of_decide_eq_true (by kernel_rfl)) (by unfold Func.isWrapper; first | (rw [if_pos (by decide +kernel)]; kernel_rfl) | (rw [if_neg (by decide +kernel)]; exact ⟨rfl, rfl⟩))
    (fun os started H enc _ => loopsDepth_lifted os started H enc)

theorem loopsDepth_holds : Rows.LoopsDepthCardSaid :=
  Claim7.holds_tied_plain_at .later [] [.data] true Rows.loopsDepthCard.stood.harness false
    loopsDepth_said (fun _ h => by cases h) (by kernel_rfl) (fun _ h => by cases h) loopsDepth_row_tie rfl ⟨rfl, rfl⟩ (by kernel_rfl) rfl
    (fun f fn hf hfn => by
      obtain rfl : f = 4 := Option.some.inj ((show Tryd.prog.funcNamed "soffit/soffitlaw14.LoopsDepth" = some 4 by kernel_rfl).symm.trans hf) |>.symm
      obtain rfl : fn = Tryd.f4 := (Option.some.inj (Tryd.func4.symm.trans hfn)).symm
      exact ⟨by kernel_rfl, fun j t ht => by
        have hm : t ∈ Tryd.f4.params.toList := by
          rw [← Array.getElem?_toList] at ht
          exact List.mem_of_getElem? ht
        have hall : (Tryd.f4.params.toList.all fun u => !Tryd.prog.wantsStandIn u) = true := by kernel_rfl
        exact (show Tryd.prog.wantsStandIn t = false by simpa using List.all_eq_true.1 hall t hm)⟩)
    (by kernel_rfl)
end Go.Proofs.YtapjdndcnenadaaDoor
