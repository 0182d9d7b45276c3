/- From a walk over loops, or over a function, that answers true and leaves what was there to the contract that a row with the listed table asks. -/
import Derived.Test.YtapjdndcnenadaaDoorLaid14
import Derived.Test.YtapjdndcnenadaaDoorOpenLoops
namespace Go.Proofs.YtapjdndcnenadaaDoor
open Go.Joins Go.ChangeShapes Go.WideShapes Go.ChangeAt Go.RowKit Go.Deep

theorem Tryd.own : ownKnob Tryd.prog.godebug = none := by kernel_rfl
theorem Tryd.laidOut : laidOutB Tryd.prog = true := by kernel_rfl
theorem door_met (os : Os) (args : Array Value) : laidMetH Tryd.prog laid2 ((World.doorLaid Tryd.prog 34 os).forCall (fun _ _ => 0) ⟨#[], args, []⟩).memory :=
  laidMetH_of_parts3 (fuel := 8) (laidMet_of_run' 8 (by kernel_rfl) (by kernel_rfl)) (by kernel_rfl) (by kernel_rfl)

section
variable {H : Type} {enc : TypeId × Value → H}

theorem trodAll_stays {W W' : World} {sp : Nat → Bool} : ∀ {ts : List TypeId} {vs : List Value} {ds : List (DataW H)} {ps : List MemPlace}, (∀ t ∈ ts, Tryd.prog.readableRec t = true ∧ t < Tryd.prog.types.size) →
    DataW.TrodAll enc Tryd.prog W 0 (fun _ => true) true ts vs ds ps → Below W.heap.size W W' → (∀ x ∈ ps, x.block < W.heap.size) → (∀ x ∈ ps, sp x.block = true) → DataW.TrodAll enc Tryd.prog W' 0 sp true ts vs ds ps
  | [], [], [], ps, _, h, _, _, _ => h
  | [], [], _ :: _, ps, _, h, _, _, _ => h.elim
  | [], _ :: _, _, ps, _, h, _, _, _ => h.elim
  | _ :: _, [], _, ps, _, h, _, _, _ => h.elim
  | _ :: _, _ :: _, [], ps, _, h, _, _, _ => h.elim
  | t :: ts, v :: vs, d :: ds, ps, hr, h, hb, hlt, hsp => by
    obtain ⟨p, q, h1, h2, rfl⟩ := h
    exact ⟨p, q, WideElems.Trod_stays Tryd.laidOut (hr t (by simp)).1 (hr t (by simp)).2 h1 (fun x hx => hb.same (hlt x (List.mem_append_left _ hx))) (fun x hx => hsp x (List.mem_append_left _ hx)),
      trodAll_stays (fun t ht => hr t (by simp [ht])) h2 hb (fun x hx => hlt x (List.mem_append_right _ hx)) (fun x hx => hsp x (List.mem_append_right _ hx)), rfl⟩

/-- All the argument types of these laws read. -/
theorem reads_types : ∀ t ∈ [27, 3, 25], Tryd.prog.readableRec t = true ∧ t < Tryd.prog.types.size := by
  intro t ht
  simp only [List.mem_cons, List.not_mem_nil, or_false] at ht
  rcases ht with rfl | rfl | rfl
  · exact ⟨by kernel_rfl, of_decide_eq_true (by kernel_rfl)⟩
  · exact ⟨by kernel_rfl, of_decide_eq_true (by kernel_rfl)⟩
  · exact ⟨by kernel_rfl, of_decide_eq_true (by kernel_rfl)⟩

theorem post_true {fn : Func} {s : ChangeSpec} {W W' : World} {args : Array Value} {ds gs : List (DataW H)} {before : List MemPlace} (hvars : s.vars = []) (hts : ∀ t ∈ fn.params.toList, t ∈ [27, 3, 25]) (hres : fn.resultTypes = #[4])
    (hspec : (s.fn H (ds ++ gs)).results = [.lit (.bool true)] ∧ (s.fn H (ds ++ gs)).args = ds ∧ (s.fn H (ds ++ gs)).vars = [])
    (hW : DataW.Whole enc Tryd.prog fn.params.toList s.vars false W args.toList ds gs before) (hb : Below W.heap.size W W') : s.post enc Tryd.prog fn false true false false W args (.bool true) W' := by
  have hlt : ∀ p ∈ before, p.block < W.heap.size := fun p hp => by simpa using hW.lt p hp
  have hW0 := hW
  obtain ⟨p, q, hA, hV, rfl, _, _⟩ := hW0
  rw [hvars] at hV
  obtain ⟨rfl, rfl⟩ := trodVars_none hV
  refine ⟨ds, [], p ++ [], [], p, [], hW, ?_, ?_, ?_, hb.frame _, fun h => by cases h⟩
  · rw [hspec.1, hres]
    exact trodAll_mk1 (shut_bool Tryd.underlying4 true)
  · rw [hspec.2.1]
    exact trodAll_stays (fun t ht => reads_types t (hts t ht)) hA hb (fun x hx => hlt x (by simpa using hx)) (fun x hx => by simpa using hlt x (by simpa using hx))
  · rw [hspec.2.2, hvars]
    rfl
end

/-- The witness that these rows ask. -/
abbrev Witness (n : FuncId) (fn : Func) (s : ChangeSpec) (conds : List PathCond) (os : Os) {H : Type} (enc : TypeId × Value → H) : Prop :=
  ∃ (w : World) (tape : Tape) (i : Input), w.os = os ∧ (w.forCall tape i).Shaped Tryd.checked.prog ∧ i.vars = [] ∧ Input.okWide Tryd.checked.prog (w.forCall tape i) .any w.heap.size n i ∧
    ((s.pre enc Tryd.checked.prog fn conds false (w.forCall tape i).memory i.args ∧ laidMetH Tryd.prog laid2 (w.forCall tape i).memory) ∧ sizedMet enc Tryd.checked.prog fn (OpenSpec.ofChange s) false (w.forCall tape i).memory i.args) ∧ ({} : Assume).holds Tryd.checked.prog (lone (Frame.enter Tryd.checked.prog n i.args .normal) [] (w.forCall tape i))

set_option maxRecDepth 100000 in
/-- A law over a list of loops and an int. -/
theorem lift_loops_int {n : FuncId} {fn : Func} {s : ChangeSpec} {conds : List PathCond} {os : Os} {H : Type} {enc : TypeId × Value → H} (started : os.Started) (noInit : Tryd.checked.prog.inits.idxOf? n = none) (hfn : Tryd.checked.prog.funcs[n]? = some fn)
    (hp : fn.params.toList = [27, 3]) (hres : fn.resultTypes = #[4]) (hvars : s.vars = []) (hspec : ∀ d1 d2 : DataW H, s.fn H [d1, d2] = { results := [.lit (.bool true)], args := [d1, d2] })
    (witness : Witness n fn s conds os enc)
    (walk : ∀ (W : World) (v : Value) (l : List LP) (k : Int), LoopsIn W v l → WritesIn W → Calls Tryd.prog n #[v, .int .i64 k] W (Gives (.bool true) W)) :
    ReturnsInHanded {} Tryd.checked os n .any (fun w args => (s.pre enc Tryd.prog fn conds false w args ∧ laidMetH Tryd.prog laid2 w) ∧ sizedMet enc Tryd.prog fn (OpenSpec.ofChange s) false w args) (s.post enc Tryd.prog fn false true false false) := by
  refine returnsInHanded_of_change_and (C := Tryd.checked) (X := fun w _ => laidMetH Tryd.prog laid2 w) (fun _ _ _ hh h => h.of_heap hh) Tryd.own started noInit hfn witness ?_
  intro W base args ds gs before hval0 hW _ hsz0 hL _
  have hval : ∀ (j : Nat) t v, fn.params[j]? = some t → args[j]? = some v → Value.okWide Tryd.prog W .any base t v := hval0
  clear hsz0 hval0
  have hW' := hW
  obtain ⟨p, q, hA0, hV, rfl, _, _⟩ := hW
  have hA : DataW.TrodAll enc Tryd.prog W 0 (fun _ => true) true fn.params.toList args.toList ds p := hA0
  rw [hp] at hA
  obtain ⟨v0, v1, d0, d1, p0, p1, rfl, rfl, rfl, h0, h1⟩ := trodAll_two hA
  rw [hvars] at hV
  obtain ⟨rfl, rfl⟩ := trodVars_none hV
  have hp0 : fn.params[0]? = some 27 := by rw [← Array.getElem?_toList, hp]; rfl
  have hp1 : fn.params[1]? = some 3 := by rw [← Array.getElem?_toList, hp]; rfl
  obtain ⟨a0, len, cap, rfl⟩ := okWide_slice Tryd.underlying27 (hval 0 _ v0 hp0 rfl)
  obtain ⟨fuel, hf⟩ := h0
  obtain ⟨l, hl⟩ := open_loops hf
  obtain ⟨k, rfl, rfl, rfl, wk⟩ := open_int Tryd.underlying3 (hval 1 _ v1 hp1 rfl) h1
  refine (walk W _ l k hl (of_laid hL)).mono fun e W' ⟨he, hb⟩ => ?_
  exact ⟨_, he, post_true hvars (by rw [hp]; simp) hres (by rw [List.append_nil, hspec]; exact ⟨rfl, rfl, rfl⟩) hW' hb⟩

set_option maxRecDepth 100000 in
/-- A law over one api.Func. -/
theorem lift_func {n : FuncId} {fn : Func} {s : ChangeSpec} {conds : List PathCond} {os : Os} {H : Type} {enc : TypeId × Value → H} (started : os.Started) (noInit : Tryd.checked.prog.inits.idxOf? n = none) (hfn : Tryd.checked.prog.funcs[n]? = some fn)
    (hp : fn.params.toList = [25]) (hres : fn.resultTypes = #[4]) (hvars : s.vars = []) (hspec : ∀ d : DataW H, s.fn H [d] = { results := [.lit (.bool true)], args := [d] })
    (witness : Witness n fn s conds os enc)
    (walk : ∀ (W : World) (s : ByteArray) (vp : Value) (regs words : Int) (vc : Value) (params : List Span) (code : List Ins), FuncArg W s vp regs words vc params code → WritesIn W → Calls Tryd.prog n #[fnV s vp regs words vc] W (Gives (.bool true) W)) :
    ReturnsInHanded {} Tryd.checked os n .any (fun w args => (s.pre enc Tryd.prog fn conds false w args ∧ laidMetH Tryd.prog laid2 w) ∧ sizedMet enc Tryd.prog fn (OpenSpec.ofChange s) false w args) (s.post enc Tryd.prog fn false true false false) := by
  refine returnsInHanded_of_change_and (C := Tryd.checked) (X := fun w _ => laidMetH Tryd.prog laid2 w) (fun _ _ _ hh h => h.of_heap hh) Tryd.own started noInit hfn witness ?_
  intro W base args ds gs before hval0 hW _ hsz0 hL _
  have hsz : (DataW.weightsEach Tryd.prog (fn.params.toList ++ s.plain.varTypes Tryd.prog) (ds ++ gs)).all (· ≤ reachBytes) = true := hsz0
  have hval : ∀ (j : Nat) t v, fn.params[j]? = some t → args[j]? = some v → Value.okWide Tryd.prog W .any base t v := hval0
  clear hsz0 hval0
  have hW' := hW
  obtain ⟨p, q, hA0, hV, rfl, _, _⟩ := hW
  have hA : DataW.TrodAll enc Tryd.prog W 0 (fun _ => true) true fn.params.toList args.toList ds p := hA0
  rw [hp] at hA hsz
  obtain ⟨v0, d0, rfl, rfl, h0⟩ := trodAll_one hA
  rw [hvars] at hV
  obtain ⟨rfl, rfl⟩ := trodVars_none hV
  have hp0 : fn.params[0]? = some 25 := by rw [← Array.getElem?_toList, hp]; rfl
  obtain ⟨sb, vp, regs, words, vc, params, code, rfl, hf⟩ := open_func (hval 0 _ v0 hp0 rfl) h0 (fun m hm => by
    have := List.all_eq_true.1 hsz m (DataW.weights_mem_each (j := 0) rfl rfl m hm)
    simpa using this)
  refine (walk W sb vp regs words vc params code hf (of_laid hL)).mono fun e W' ⟨he, hb⟩ => ?_
  exact ⟨_, he, post_true hvars (by rw [hp]; simp) hres (by rw [List.append_nil, hspec]; exact ⟨rfl, rfl, rfl⟩) hW' hb⟩
end Go.Proofs.YtapjdndcnenadaaDoor
