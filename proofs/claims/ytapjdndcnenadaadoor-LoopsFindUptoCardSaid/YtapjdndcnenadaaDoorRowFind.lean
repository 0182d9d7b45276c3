/- For every input api.Func, soffitlaw14.LoopsFind returns true, and the inputs read behind the call as they did before; conditions: the input is of bulk at most 1048576, and the variable soffit/code.rows reads as its program's text lays it (tied). -/
import Derived.Test.YtapjdndcnenadaaDoorLift14
import Derived.Test.YtapjdndcnenadaaDoorLawFind
import Derived.Test.YtapjdndcnenadaaDoorTie
import Derived.Test.YtapjdndcnenadaaDoorCards
import Derived.Deep.DeepHandedRow
import Derived.Deep.DeepWitnessRowRef
namespace Go.Proofs.YtapjdndcnenadaaDoor
open Go.Joins Go.ChangeShapes Go.WideShapes Go.ChangeAt Go.RowKit Go.Deep

noncomputable def findArg : Value := .agg #[.string ⟨#[]⟩, .slice none 0 0, .int .i64 0, .int .i64 0, .slice none 0 0]
theorem find_reads (os : Os) {H : Type} (enc : TypeId × Value → H) : ∃ places, DataW.whole enc Tryd.prog ((World.doorLaid Tryd.prog 34 os).forCall (fun _ _ => 0) ⟨#[], #[findArg], []⟩).memory Tryd.f3.params.toList Rows.loopsFindSpec.vars false #[findArg].toList 8 = some ([.agg [.lit (.string []), .nil, .lit (.int .i64 0), .lit (.int .i64 0), .nil]], [], places) :=
  ⟨[], by kernel_rfl⟩

set_option maxRecDepth 100000 in
theorem loopsFind_lifted (os : Os) (started : os.Started) (H : Type) (enc : TypeId × Value → H) (F : Stop.Interp) :
    ReturnsInHanded {} Tryd.checked os 3 .any ((Rows.OpenSpec.upto Rows.loopsFindSpec).preRow enc Tryd.prog Tryd.f3 Rows.loopsFindUptoRow.domain false Rows.loopsFindUptoRow.laid) (((Rows.OpenSpec.upto Rows.loopsFindSpec).at F).post enc Tryd.prog Tryd.f3 false true false false) := by
  obtain ⟨places, hx⟩ := find_reads os enc
  refine returnsInHanded_of_row (C := Tryd.checked) (s := Rows.OpenSpec.upto Rows.loopsFindSpec) Tryd.own started (by kernel_rfl) Tryd.func3
    (witness_row_atRef (enc := enc) (C := Tryd.checked) false (World.doorLaid Tryd.prog 34 os) #[findArg] rfl (by kernel_rfl) (by kernel_rfl) (by kernel_rfl)
      (OpenSpec.preRow_of_cond 8 hx (by kernel_rfl) (fun k hk => by cases hk; kernel_rfl) (by kernel_rfl) (door_met os _))) ?_
  intro W base args ds gs before hval0 hW _ _ hsz0 hL _ _
  have hval : ∀ (j : Nat) t v, Tryd.f3.params[j]? = some t → args[j]? = some v → Value.okWide Tryd.prog W .any base t v := hval0
  have hsz : (DataW.weightsEach Tryd.prog (Tryd.f3.params.toList ++ Rows.loopsFindSpec.plain.varTypes Tryd.prog) (ds ++ gs)).all (· ≤ reachBytes) = true := hsz0
  have hp : Tryd.f3.params.toList = [25] := rfl
  have hW' : DataW.Whole enc Tryd.prog Tryd.f3.params.toList Rows.loopsFindSpec.vars false W args.toList ds gs before := hW
  have hW1 := hW'
  obtain ⟨p, q, hA0, hV, rfl, _, _⟩ := hW1
  have hA : DataW.TrodAll enc Tryd.prog W 0 (fun _ => true) true Tryd.f3.params.toList args.toList ds p := hA0
  rw [hp] at hA hsz
  obtain ⟨v0, d0, rfl, rfl, h0⟩ := trodAll_one hA
  obtain ⟨rfl, rfl⟩ := trodVars_none hV
  have hp0 : Tryd.f3.params[0]? = some 25 := rfl
  obtain ⟨sb, vp, regs, words, vc, params, code, rfl, hf⟩ := open_func (hval 0 _ v0 hp0 rfl) h0 (fun m hm => by
    have := List.all_eq_true.1 hsz m (DataW.weights_mem_each (j := 0) rfl rfl m hm)
    simpa using this)
  refine (lawFind_any sb vp regs words vc params code W hf.nCode hf.nParams hf.hcode hf.hparams (of_laid hL)).mono fun e W' ⟨he, hb⟩ => ?_
  exact ⟨_, he, post_true (s := Rows.loopsFindSpec) rfl (by rw [hp]; simp) rfl ⟨rfl, rfl, rfl⟩ hW' hb⟩

theorem loopsFind_said : Rows.LoopsFindUptoSaid :=
  OpenClaim.holds_of_cond 3 Tryd.f3 rfl rfl rfl rfl rfl rfl rfl ⟨rfl, rfl, rfl, rfl, rfl⟩ rfl rfl rfl rfl rfl (by kernel_rfl) Tryd.func3 (by kernel_rfl)
    (of_decide_eq_true (by kernel_rfl)) (by unfold Func.isWrapper; first | (rw [if_pos (by decide +kernel)]; kernel_rfl) | (rw [if_neg (by decide +kernel)]; exact ⟨rfl, rfl⟩))
    (fun os started H enc _ F => by rw [OpenClaim.pre_eq_preRow]; exact loopsFind_lifted os started H enc F)

theorem loopsFind_holds : Rows.LoopsFindUptoCardSaid :=
  Claim7.holds_tied_plain_at .later [] [.data] true Rows.loopsFindUptoCard.stood.harness false
    loopsFind_said (fun _ h => by cases h) (by kernel_rfl) (fun _ h => by cases h) loopsFindUpto_row_tie rfl ⟨rfl, rfl⟩ (by kernel_rfl) rfl
    (fun f fn hf hfn => by
      obtain rfl : f = 3 := Option.some.inj ((show Tryd.prog.funcNamed "soffit/soffitlaw14.LoopsFind" = some 3 by kernel_rfl).symm.trans hf) |>.symm
      obtain rfl : fn = Tryd.f3 := (Option.some.inj (Tryd.func3.symm.trans hfn)).symm
      exact ⟨by kernel_rfl, fun j t ht => by
        have hm : t ∈ Tryd.f3.params.toList := by
          rw [← Array.getElem?_toList] at ht
          exact List.mem_of_getElem? ht
        have hall : (Tryd.f3.params.toList.all fun u => !Tryd.prog.wantsStandIn u) = true := by kernel_rfl
        exact (show Tryd.prog.wantsStandIn t = false by simpa using List.all_eq_true.1 hall t hm)⟩)
    (by kernel_rfl)
end Go.Proofs.YtapjdndcnenadaaDoor
