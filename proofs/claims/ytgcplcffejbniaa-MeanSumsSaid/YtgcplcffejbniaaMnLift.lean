/- A law over two int64s. -/
import Derived.Test.YtgcplcffejbniaaTrLift
import Derived.Test.YtgcplcffejbniaaRgLift
namespace Go.Proofs.Ytgcplcffejbniaa
open Go.Joins Go.ChangeShapes Go.WideShapes Go.ChangeAt Go.RowKit Go.Deep

set_option maxRecDepth 100000 in
theorem lift_int64s {n : FuncId} {fn : Func} {s : ChangeSpec} {conds : List PathCond} {os : Os} {H : Type} {enc : TypeId × Value → H} (started : os.Started) (noInit : Try.checked.prog.inits.idxOf? n = none) (hfn : Try.checked.prog.funcs[n]? = some fn)
    (hp : fn.params.toList = [2, 2]) (hres : fn.resultTypes = #[4]) (hvars : s.vars = []) (hspec : ∀ d1 d2 : DataW H, s.fn H [d1, d2] = { results := [.lit (.bool true)], args := [d1, d2] })
    (witness : ∃ (w : World) (tape : Tape) (i : Input), w.os = os ∧ (w.forCall tape i).Shaped Try.checked.prog ∧ i.vars = [] ∧ Input.okWide Try.checked.prog (w.forCall tape i) .any w.heap.size n i ∧
      s.pre6 enc Try.checked.prog fn conds false (w.forCall tape i).memory i.args ∧ ({} : Assume).holds Try.checked.prog (lone (Frame.enter Try.checked.prog n i.args .normal) [] (w.forCall tape i)))
    (walk : ∀ (W : World) (a k : Int), (Lit.int .i64 a).wf = true → Calls Try.prog n #[.int .i64 a, .int .i64 k] W (Gives (.bool true) W)) :
    ReturnsInHanded {} Try.checked os n .any (s.pre6 enc Try.prog fn conds false) (s.post enc Try.prog fn false true false false) := by
  refine returnsInHanded_of_change_sized (C := Try.checked) Try.own started noInit hfn witness ?_
  intro W base args ds gs before hval0 hW _ _ _
  have hval : ∀ (j : Nat) t v, fn.params[j]? = some t → args[j]? = some v → Value.okWide Try.prog W .any base t v := hval0
  clear hval0
  have hW' := hW
  obtain ⟨p, q, hA0, hV, rfl, _, _⟩ := hW
  have hA : DataW.TrodAll enc Try.prog W 0 (fun _ => true) true fn.params.toList args.toList ds p := hA0
  rw [hp] at hA
  obtain ⟨v0, v1, d0, d1, p0, p1, rfl, rfl, rfl, h0, h1⟩ := trodAll_two hA
  rw [hvars] at hV
  obtain ⟨rfl, rfl⟩ := trodVars_none hV
  have hp0 : fn.params[0]? = some 2 := by rw [← Array.getElem?_toList, hp]; rfl
  have hp1 : fn.params[1]? = some 2 := by rw [← Array.getElem?_toList, hp]; rfl
  obtain ⟨a, rfl, rfl, rfl, wa⟩ := open_int Try.underlying2 (hval 0 _ v0 hp0 rfl) h0
  obtain ⟨k, rfl, rfl, rfl, wk⟩ := open_int Try.underlying2 (hval 1 _ v1 hp1 rfl) h1
  refine (walk W a k wa).mono fun e W' ⟨he, hb⟩ => ?_
  exact ⟨_, he, post_true_r hvars (by rw [hp]; simp) hres (by rw [List.append_nil, hspec]; exact ⟨rfl, rfl, rfl⟩) hW' hb⟩
end Go.Proofs.Ytgcplcffejbniaa
