/- For every input api.Func, soffitlaw14.LoopsCount returns true, and the inputs read behind the call as they did before; the one condition: the variable soffit/code.rows reads as its program's text lays it (tied). -/
import Derived.Test.YtapjdndcnenadaaDoorLift14
import Derived.Test.YtapjdndcnenadaaDoorLawCount
import Derived.Test.YtapjdndcnenadaaDoorTie
import Derived.Test.YtapjdndcnenadaaDoorCards
namespace Go.Proofs.YtapjdndcnenadaaDoor
open Go.Joins Go.ChangeShapes Go.WideShapes Go.ChangeAt Go.RowKit Go.Deep

set_option maxRecDepth 100000 in
theorem loopsCount_lifted (os : Os) (started : os.Started) (H : Type) (enc : TypeId × Value → H) :
    ReturnsInHanded {} Tryd.checked os 6 .any (fun w args => (Rows.loopsCountSpec.pre enc Tryd.prog Tryd.f6 Rows.loopsCountRow.domain false w args ∧ laidMetH Tryd.prog laid2 w) ∧ sizedMet enc Tryd.prog Tryd.f6 (OpenSpec.ofChange Rows.loopsCountSpec) false w args) (Rows.loopsCountSpec.post enc Tryd.prog Tryd.f6 false true false false) :=
  lift_func started (by kernel_rfl) Tryd.func6 rfl rfl rfl (fun _ => rfl)
    (ChangeSpec.witness_shaped (enc := enc) (C := Tryd.checked) (os := os) (X := fun w _ => laidMetH Tryd.prog laid2 w) false (World.doorLaid Tryd.prog 34 os) #[.agg #[.string ⟨#[]⟩, .slice none 0 0, .int .i64 0, .int .i64 0, .slice none 0 0]] 8 rfl (World.shaped_of_RefB (by kernel_rfl) (by kernel_rfl)) (by kernel_rfl) (by kernel_rfl) (by kernel_rfl) (door_met os _))
    (fun W s vp regs words vc params code hf hw => lawCount_any s vp regs words vc code W hf.nCode hf.hcode hw)

theorem loopsCount_said : Rows.LoopsCountSaid :=
  OpenClaim.holds_of_wide 6 Tryd.f6 rfl rfl rfl rfl rfl rfl rfl ⟨rfl, rfl, rfl, rfl, rfl⟩ rfl rfl rfl rfl rfl (by kernel_rfl) Tryd.func6 (by kernel_rfl)
    (of_decide_eq_true (by kernel_rfl)) (by unfold Func.isWrapper; first | (rw [if_pos (by decide +kernel)]; kernel_rfl) | (rw [if_neg (by decide +kernel)]; exact ⟨rfl, rfl⟩))
    (fun os started H enc _ => loopsCount_lifted os started H enc)

theorem loopsCount_holds : Rows.LoopsCountCardSaid :=
  Claim7.holds_tied_plain_at .later [] [.data] true Rows.loopsCountCard.stood.harness false
    loopsCount_said (fun _ h => by cases h) (by kernel_rfl) (fun _ h => by cases h) loopsCount_row_tie rfl ⟨rfl, rfl⟩ (by kernel_rfl) rfl
    (fun f fn hf hfn => by
      obtain rfl : f = 6 := Option.some.inj ((show Tryd.prog.funcNamed "soffit/soffitlaw14.LoopsCount" = some 6 by kernel_rfl).symm.trans hf) |>.symm
      obtain rfl : fn = Tryd.f6 := (Option.some.inj (Tryd.func6.symm.trans hfn)).symm
      exact ⟨by kernel_rfl, fun j t ht => by
        have hm : t ∈ Tryd.f6.params.toList := by
          rw [← Array.getElem?_toList] at ht
          exact List.mem_of_getElem? ht
        have hall : (Tryd.f6.params.toList.all fun u => !Tryd.prog.wantsStandIn u) = true := by kernel_rfl
        exact (show Tryd.prog.wantsStandIn t = false by simpa using List.all_eq_true.1 hall t hm)⟩)
    (by kernel_rfl)
end Go.Proofs.YtapjdndcnenadaaDoor
