/- From a walk over a program whose lists are within reach, and whose numbers lie in 64 bits, to the contract that a row asks. -/
import Derived.Test.YtgobcldecokppaaDoorTrLift
/- An argument api.Program, opened: its lists of parameters are within reach. -/
namespace Go.Proofs.YtgobcldecokppaaDoor
open Go.Joins Go.ChangeShapes Go.WideShapes Go.ChangeAt Go.RowKit Go.Deep

/-- Each function's parameters are within reach. -/
def Pg.near (p : Pg) : Prop := ∀ f ∈ p.funcs, f.params.length ≤ 140737488355328
theorem wAll_mem {H : Type} {P : Program} {e : TypeId} {m : Nat} {d : DataW H} : ∀ {l : List (DataW H)}, d ∈ l → m ∈ d.weights P e → m ∈ DataW.weightsAll P e l
  | [], h, _ => by simp at h
  | x :: l, h, hm => by
    simp only [DataW.weightsAll, List.mem_append]
    rcases List.mem_cons.1 h with rfl | h
    · exact .inl hm
    · exact .inr (wAll_mem h hm)
section
variable {H : Type} {enc : TypeId × Value → H} {w : World} {base : Nat}
theorem bytesPm : Tryd.prog.bytesOf 49 = 32 := by kernel_rfl
theorem open_params_z {fuel : Nat} {v : Value} {x : DataW H × List MemPlace} {l : List Pm} (hr : RowOf w v l.length 3 (fun b o k => ∀ y, l[k]? = some y → PmAt w b o y)) (h : DataW.trod enc Tryd.prog w base (fun _ => true) true fuel 37 [v] = some x)
    (hw : ∀ m ∈ x.1.weights Tryd.prog 37, m ≤ reachBytes) : l.length ≤ 140737488355328 := by
  obtain ⟨a0, c0, hv, h0, -⟩ := hr.form
  rcases open_slice Tryd.underlying37 h with ⟨hc, _⟩ | ⟨a, len, cap, m, n', D, Pl, hc, hb, hl, hm, hmm, hx, hall⟩
  · simp only [List.cons.injEq, and_true] at hc
    rw [hv] at hc
    simp only [Value.slice.injEq] at hc
    omega
  · simp only [List.cons.injEq, and_true] at hc
    simp only [if_true] at hmm
    rw [hv] at hc
    simp only [Value.slice.injEq] at hc
    obtain ⟨rfl, hll, rfl⟩ := hc
    subst hmm
    have h2 := hw (m * 32) (by
      rw [hx]
      simp only [DataW.weights, Tryd.underlying37, bytesPm]
      simp
      left; omega)
    unfold reachBytes at h2
    omega
theorem open_fns_z {fuel : Nat} {v : Value} {x : DataW H × List MemPlace} {l : List Fn} {vp vb : Nat → Value} (hf : FnsIn w l v vp vb) (h : DataW.trod enc Tryd.prog w base (fun _ => true) true fuel 23 [v] = some x)
    (hw : ∀ m ∈ x.1.weights Tryd.prog 23, m ≤ reachBytes) : ∀ f ∈ l, f.params.length ≤ 140737488355328 := by
  intro f hmem
  obtain ⟨i, hi⟩ := List.getElem?_of_mem hmem
  obtain ⟨a0, c0, hv, h0, -⟩ := hf.row.form
  have hil := (List.getElem?_eq_some_iff.1 hi).1
  rcases open_slice Tryd.underlying23 h with ⟨hc, _⟩ | ⟨a, len, cap, m, n', D, Pl, hc, hb, hl, hm, hmm, hx, hall⟩
  · simp only [List.cons.injEq, and_true] at hc
    rw [hv] at hc
    simp only [Value.slice.injEq] at hc
    omega
  · simp only [List.cons.injEq, and_true] at hc
    simp only [if_true] at hmm
    have hr := hf.row
    rw [hv] at hc
    simp only [Value.slice.injEq] at hc
    obtain ⟨rfl, hll, rfl⟩ := hc
    subst hmm
    obtain ⟨cs', hcs, ht⟩ := hall i (by omega)
    rw [cellsFn] at hcs
    obtain ⟨_, hcl, hat⟩ := World.cells?_some hcs
    obtain ⟨ys, n2, _, hy, hlen, hyl, hfs⟩ := DataW.trod_struct Tryd.underlying40 ht
    simp only [Prod.mk.injEq] at hy
    have t1 := hfs 1 _ rfl
    rw [hv] at hr
    obtain ⟨b, off, e, hbl, hp⟩ := hr.at hil
    cases e
    have hc1 := (hp f hi).c1
    have h1 := hat 1 (by omega)
    rw [Go.Deep.add_add] at h1
    have e1 : (⟨b, off, none⟩ : Addr).add (i * 3 + 1) = ⟨b, off + i * 3 + 1, none⟩ := by
      unfold Addr.add; split <;> simp_all <;> omega
    rw [e1, hc1] at h1
    obtain ⟨b0, b1, b2, hcc⟩ := len3 hcl
    rw [hcc] at h1 t1
    simp only [List.getElem?_cons_succ, List.getElem?_cons_zero, Option.some.injEq] at h1
    simp only [List.getElem_toArray, List.getElem_cons_zero, List.getElem_cons_succ, List.drop_zero, List.drop_succ_cons, List.take_succ_cons, List.take_zero, cellsPms] at t1
    rw [← h1] at t1
    have hy1 : ys[1]? = some (ys[1]'(by rw [hyl]; decide)) := List.getElem?_eq_getElem _
    rw [hy1] at t1
    refine open_params_z (hf.params i f hi) t1 fun m' hm' => hw m' ?_
    rw [hx]
    simp only [DataW.weights, Tryd.underlying23, List.mem_cons, List.mem_append]
    refine .inr (.inl (wAll_mem (List.mem_map.2 ⟨i, List.mem_range.2 (by omega), rfl⟩) ?_))
    rw [hy.1]
    match ys, hyl, hm' with
    | [y0, y1, y2], _, hm' =>
      simp only [DataW.weights, Tryd.underlying40, DataW.weightsEach, List.map_cons, List.mem_append]
      exact .inr (.inl hm')
set_option maxRecDepth 100000 in
theorem open_program_z {r : Reach} {b0 : Nat} {v : Value} {d : DataW H} {p : List MemPlace} (hv : Value.okWide Tryd.prog w r b0 25 v) (h : DataW.Trod enc Tryd.prog w base (fun _ => true) true 25 v d p)
    (hw : ∀ m ∈ d.weights Tryd.prog 25, m ≤ reachBytes) : ∃ (pg : Pg) (vw vf : Value) (vp vb : Nat → Value), v = pgV vw vf ∧ PgIn w pg vw vf vp vb ∧ pg.near ∧ pg.rng := by
  obtain ⟨v0, v1, y0, y1, n, rfl, rfl, rfl, t0, t1⟩ := open_pair Tryd.underlying25 (by kernel_rfl) (by kernel_rfl) hv h
  obtain ⟨lw, hlw⟩ := open_i64row t0
  obtain ⟨lf, vp, vb, hlf, hrg⟩ := open_fns t1
  simp only [DataW.weights, Tryd.underlying25, DataW.weightsEach, List.map_cons, List.mem_append] at hw
  exact ⟨⟨lw, lf⟩, v0, v1, vp, vb, rfl, ⟨hlw, hlf⟩, open_fns_z hlf t1 fun m hm => hw m (.inr (.inl hm)), hrg⟩
end
set_option maxRecDepth 100000 in
/-- A law over one api.Program and an int, its lists within reach. -/
theorem lift_prog_int_z {n : FuncId} {fn : Func} {s : ChangeSpec} {conds : List PathCond} {os : Os} {H : Type} {enc : TypeId × Value → H} (started : os.Started) (noInit : Tryd.checked.prog.inits.idxOf? n = none) (hfn : Tryd.checked.prog.funcs[n]? = some fn)
    (hp : fn.params.toList = [25, 3]) (hres : fn.resultTypes = #[4]) (hvars : s.vars = []) (hspec : ∀ d1 d2 : DataW H, s.fn H [d1, d2] = { results := [.lit (.bool true)], args := [d1, d2] })
    (witness : ∃ (w : World) (tape : Tape) (i : Input), w.os = os ∧ (w.forCall tape i).Shaped Tryd.checked.prog ∧ i.vars = [] ∧ Input.okWide Tryd.checked.prog (w.forCall tape i) .any w.heap.size n i ∧
      s.pre6 enc Tryd.checked.prog fn conds false (w.forCall tape i).memory i.args ∧ ({} : Assume).holds Tryd.checked.prog (lone (Frame.enter Tryd.checked.prog n i.args .normal) [] (w.forCall tape i)))
    (walk : ∀ (W : World) (p : Pg) (vw vf : Value) (vp vb : Nat → Value) (k : Int), PgIn W p vw vf vp vb → p.near → (Lit.int .i64 k).wf = true → Calls Tryd.prog n #[pgV vw vf, .int .i64 k] W (Gives (.bool true) W)) :
    ReturnsInHanded {} Tryd.checked os n .any (s.pre6 enc Tryd.prog fn conds false) (s.post enc Tryd.prog fn false true false false) := by
  refine returnsInHanded_of_change_sized (C := Tryd.checked) Tryd.own started noInit hfn witness ?_
  intro W base args ds gs before hval0 hW _ hsz0 _
  have hsz : (DataW.weightsEach Tryd.prog (fn.params.toList ++ s.plain.varTypes Tryd.prog) (ds ++ gs)).all (· ≤ reachBytes) = true := hsz0
  have hval : ∀ (j : Nat) t v, fn.params[j]? = some t → args[j]? = some v → Value.okWide Tryd.prog W .any base t v := hval0
  clear hval0 hsz0
  have hW' := hW
  obtain ⟨p, q, hA0, hV, rfl, _, _⟩ := hW
  have hA : DataW.TrodAll enc Tryd.prog W 0 (fun _ => true) true fn.params.toList args.toList ds p := hA0
  rw [hp] at hA hsz
  obtain ⟨v0, v1, d0, d1, p0, p1, rfl, rfl, rfl, h0, h1⟩ := trodAll_two hA
  rw [hvars] at hV
  obtain ⟨rfl, rfl⟩ := trodVars_none hV
  have hp0 : fn.params[0]? = some 25 := by rw [← Array.getElem?_toList, hp]; rfl
  have hp1 : fn.params[1]? = some 3 := by rw [← Array.getElem?_toList, hp]; rfl
  obtain ⟨pg, vw, vf, vp, vb, rfl, hpg, hnear, _⟩ := open_program_z (hval 0 _ v0 hp0 rfl) h0 (fun m hm => by
    have := List.all_eq_true.1 hsz m (DataW.weights_mem_each (j := 0) rfl rfl m hm)
    simpa using this)
  obtain ⟨k, rfl, rfl, rfl, wk⟩ := open_int Tryd.underlying3 (hval 1 _ v1 hp1 rfl) h1
  refine (walk W pg vw vf vp vb k hpg hnear wk).mono fun e W' ⟨he, hb⟩ => ?_
  exact ⟨_, he, post_true hvars (by rw [hp]; simp) hres (by rw [List.append_nil, hspec]; exact ⟨rfl, rfl, rfl⟩) hW' hb⟩
end Go.Proofs.YtgobcldecokppaaDoor

namespace Go.Proofs.YtgobcldecokppaaDoor
open Go.Joins Go.ChangeShapes Go.WideShapes Go.ChangeAt Go.RowKit Go.Deep

section
variable {H : Type} {enc : TypeId × Value → H}
theorem reads_types_r : ∀ t ∈ [25, 3, 4, 2], Tryd.prog.readableRec t = true ∧ t < Tryd.prog.types.size := by
  intro t ht
  simp only [List.mem_cons, List.not_mem_nil, or_false] at ht
  rcases ht with rfl | rfl | rfl | rfl
  all_goals exact ⟨by kernel_rfl, of_decide_eq_true (by kernel_rfl)⟩
theorem post_true_r {fn : Func} {s : ChangeSpec} {W W' : World} {args : Array Value} {ds gs : List (DataW H)} {before : List MemPlace} (hvars : s.vars = []) (hts : ∀ t ∈ fn.params.toList, t ∈ [25, 3, 4, 2]) (hres : fn.resultTypes = #[4])
    (hspec : (s.fn H (ds ++ gs)).results = [.lit (.bool true)] ∧ (s.fn H (ds ++ gs)).args = ds ∧ (s.fn H (ds ++ gs)).vars = [])
    (hW : DataW.Whole enc Tryd.prog fn.params.toList s.vars false W args.toList ds gs before) (hb : Below W.heap.size W W') : s.post enc Tryd.prog fn false true false false W args (.bool true) W' := by
  have hlt : ∀ p ∈ before, p.block < W.heap.size := fun p hp => by simpa using hW.lt p hp
  have hW0 := hW
  obtain ⟨p, q, hA, hV, rfl, _, _⟩ := hW0
  rw [hvars] at hV
  obtain ⟨rfl, rfl⟩ := trodVars_none hV
  refine ⟨ds, [], p ++ [], [], p, [], hW, ?_, ?_, ?_, hb.frame _, fun h => by cases h⟩
  · rw [hspec.1, hres]
    exact trodAll_mk1 (shut_bool Tryd.underlying4 true)
  · rw [hspec.2.1]
    exact trodAll_stays (fun t ht => reads_types_r t (hts t ht)) hA hb (fun x hx => hlt x (by simpa using hx)) (fun x hx => by simpa using hlt x (by simpa using hx))
  · rw [hspec.2.2, hvars]
    rfl
end
set_option maxRecDepth 100000 in
/-- A law over one api.Program. -/
theorem lift_r {n : FuncId} {fn : Func} {s : ChangeSpec} {conds : List PathCond} {os : Os} {H : Type} {enc : TypeId × Value → H} (started : os.Started) (noInit : Tryd.checked.prog.inits.idxOf? n = none) (hfn : Tryd.checked.prog.funcs[n]? = some fn)
    (hp : fn.params.toList = [25]) (hres : fn.resultTypes = #[4]) (hvars : s.vars = []) (hspec : ∀ d1 : DataW H, s.fn H [d1] = { results := [.lit (.bool true)], args := [d1] })
    (witness : ∃ (w : World) (tape : Tape) (i : Input), w.os = os ∧ (w.forCall tape i).Shaped Tryd.checked.prog ∧ i.vars = [] ∧ Input.okWide Tryd.checked.prog (w.forCall tape i) .any w.heap.size n i ∧
      s.pre6 enc Tryd.checked.prog fn conds false (w.forCall tape i).memory i.args ∧ ({} : Assume).holds Tryd.checked.prog (lone (Frame.enter Tryd.checked.prog n i.args .normal) [] (w.forCall tape i)))
    (walk : ∀ (W : World) (p : Pg) (vw vf : Value) (vp vb : Nat → Value), PgIn W p vw vf vp vb → p.near → p.rng → Calls Tryd.prog n #[pgV vw vf] W (Gives (.bool true) W)) :
    ReturnsInHanded {} Tryd.checked os n .any (s.pre6 enc Tryd.prog fn conds false) (s.post enc Tryd.prog fn false true false false) := by
  refine returnsInHanded_of_change_sized (C := Tryd.checked) Tryd.own started noInit hfn witness ?_
  intro W base args ds gs before hval0 hW _ hsz0 _
  have hsz : (DataW.weightsEach Tryd.prog (fn.params.toList ++ s.plain.varTypes Tryd.prog) (ds ++ gs)).all (· ≤ reachBytes) = true := hsz0
  have hval : ∀ (j : Nat) t v, fn.params[j]? = some t → args[j]? = some v → Value.okWide Tryd.prog W .any base t v := hval0
  clear hval0 hsz0
  have hW' := hW
  obtain ⟨p, q, hA0, hV, rfl, _, _⟩ := hW
  have hA : DataW.TrodAll enc Tryd.prog W 0 (fun _ => true) true fn.params.toList args.toList ds p := hA0
  rw [hp] at hA hsz
  obtain ⟨v0, d0, rfl, rfl, h0⟩ := trodAll_one hA
  rw [hvars] at hV
  obtain ⟨rfl, rfl⟩ := trodVars_none hV
  have hp0 : fn.params[0]? = some 25 := by rw [← Array.getElem?_toList, hp]; rfl
  obtain ⟨pg, vw, vf, vp, vb, rfl, hpg, hnear, hrg⟩ := open_program_z (hval 0 _ v0 hp0 rfl) h0 (fun m hm => by
    have := List.all_eq_true.1 hsz m (DataW.weights_mem_each (j := 0) rfl rfl m hm)
    simpa using this)
  refine (walk W pg vw vf vp vb hpg hnear hrg).mono fun e W' ⟨he, hb⟩ => ?_
  exact ⟨_, he, post_true_r hvars (by rw [hp]; simp) hres (by rw [List.append_nil, hspec]; exact ⟨rfl, rfl, rfl⟩) hW' hb⟩
set_option maxRecDepth 100000 in
/-- A law over one api.Program and an int. -/
theorem lift_r_int {n : FuncId} {fn : Func} {s : ChangeSpec} {conds : List PathCond} {os : Os} {H : Type} {enc : TypeId × Value → H} (started : os.Started) (noInit : Tryd.checked.prog.inits.idxOf? n = none) (hfn : Tryd.checked.prog.funcs[n]? = some fn)
    (hp : fn.params.toList = [25, 3]) (hres : fn.resultTypes = #[4]) (hvars : s.vars = []) (hspec : ∀ d1 d2 : DataW H, s.fn H [d1, d2] = { results := [.lit (.bool true)], args := [d1, d2] })
    (witness : ∃ (w : World) (tape : Tape) (i : Input), w.os = os ∧ (w.forCall tape i).Shaped Tryd.checked.prog ∧ i.vars = [] ∧ Input.okWide Tryd.checked.prog (w.forCall tape i) .any w.heap.size n i ∧
      s.pre6 enc Tryd.checked.prog fn conds false (w.forCall tape i).memory i.args ∧ ({} : Assume).holds Tryd.checked.prog (lone (Frame.enter Tryd.checked.prog n i.args .normal) [] (w.forCall tape i)))
    (walk : ∀ (W : World) (p : Pg) (vw vf : Value) (vp vb : Nat → Value) (k0 : Int), PgIn W p vw vf vp vb → p.near → p.rng → in64 k0 → Calls Tryd.prog n #[pgV vw vf, .int .i64 k0] W (Gives (.bool true) W)) :
    ReturnsInHanded {} Tryd.checked os n .any (s.pre6 enc Tryd.prog fn conds false) (s.post enc Tryd.prog fn false true false false) := by
  refine returnsInHanded_of_change_sized (C := Tryd.checked) Tryd.own started noInit hfn witness ?_
  intro W base args ds gs before hval0 hW _ hsz0 _
  have hsz : (DataW.weightsEach Tryd.prog (fn.params.toList ++ s.plain.varTypes Tryd.prog) (ds ++ gs)).all (· ≤ reachBytes) = true := hsz0
  have hval : ∀ (j : Nat) t v, fn.params[j]? = some t → args[j]? = some v → Value.okWide Tryd.prog W .any base t v := hval0
  clear hval0 hsz0
  have hW' := hW
  obtain ⟨p, q, hA0, hV, rfl, _, _⟩ := hW
  have hA : DataW.TrodAll enc Tryd.prog W 0 (fun _ => true) true fn.params.toList args.toList ds p := hA0
  rw [hp] at hA hsz
  obtain ⟨v0, v1, d0, d1, p0, p1, rfl, rfl, rfl, h0, h1⟩ := trodAll_two hA
  rw [hvars] at hV
  obtain ⟨rfl, rfl⟩ := trodVars_none hV
  have hp0 : fn.params[0]? = some 25 := by rw [← Array.getElem?_toList, hp]; rfl
  have hp1 : fn.params[1]? = some 3 := by rw [← Array.getElem?_toList, hp]; rfl
  obtain ⟨pg, vw, vf, vp, vb, rfl, hpg, hnear, hrg⟩ := open_program_z (hval 0 _ v0 hp0 rfl) h0 (fun m hm => by
    have := List.all_eq_true.1 hsz m (DataW.weights_mem_each (j := 0) rfl rfl m hm)
    simpa using this)
  obtain ⟨k0, rfl, rfl, rfl, wk0⟩ := open_int Tryd.underlying3 (hval 1 _ v1 hp1 rfl) h1
  refine (walk W pg vw vf vp vb k0 hpg hnear hrg (in64_of_wf wk0)).mono fun e W' ⟨he, hb⟩ => ?_
  exact ⟨_, he, post_true_r hvars (by rw [hp]; simp) hres (by rw [List.append_nil, hspec]; exact ⟨rfl, rfl, rfl⟩) hW' hb⟩
set_option maxRecDepth 100000 in
/-- A law over one api.Program, an int and a bool. -/
theorem lift_r_int_bool {n : FuncId} {fn : Func} {s : ChangeSpec} {conds : List PathCond} {os : Os} {H : Type} {enc : TypeId × Value → H} (started : os.Started) (noInit : Tryd.checked.prog.inits.idxOf? n = none) (hfn : Tryd.checked.prog.funcs[n]? = some fn)
    (hp : fn.params.toList = [25, 3, 4]) (hres : fn.resultTypes = #[4]) (hvars : s.vars = []) (hspec : ∀ d1 d2 d3 : DataW H, s.fn H [d1, d2, d3] = { results := [.lit (.bool true)], args := [d1, d2, d3] })
    (witness : ∃ (w : World) (tape : Tape) (i : Input), w.os = os ∧ (w.forCall tape i).Shaped Tryd.checked.prog ∧ i.vars = [] ∧ Input.okWide Tryd.checked.prog (w.forCall tape i) .any w.heap.size n i ∧
      s.pre6 enc Tryd.checked.prog fn conds false (w.forCall tape i).memory i.args ∧ ({} : Assume).holds Tryd.checked.prog (lone (Frame.enter Tryd.checked.prog n i.args .normal) [] (w.forCall tape i)))
    (walk : ∀ (W : World) (p : Pg) (vw vf : Value) (vp vb : Nat → Value) (k0 : Int) (k1 : Bool), PgIn W p vw vf vp vb → p.near → p.rng → in64 k0 → Calls Tryd.prog n #[pgV vw vf, .int .i64 k0, .bool k1] W (Gives (.bool true) W)) :
    ReturnsInHanded {} Tryd.checked os n .any (s.pre6 enc Tryd.prog fn conds false) (s.post enc Tryd.prog fn false true false false) := by
  refine returnsInHanded_of_change_sized (C := Tryd.checked) Tryd.own started noInit hfn witness ?_
  intro W base args ds gs before hval0 hW _ hsz0 _
  have hsz : (DataW.weightsEach Tryd.prog (fn.params.toList ++ s.plain.varTypes Tryd.prog) (ds ++ gs)).all (· ≤ reachBytes) = true := hsz0
  have hval : ∀ (j : Nat) t v, fn.params[j]? = some t → args[j]? = some v → Value.okWide Tryd.prog W .any base t v := hval0
  clear hval0 hsz0
  have hW' := hW
  obtain ⟨p, q, hA0, hV, rfl, _, _⟩ := hW
  have hA : DataW.TrodAll enc Tryd.prog W 0 (fun _ => true) true fn.params.toList args.toList ds p := hA0
  rw [hp] at hA hsz
  obtain ⟨v0, v1, v2, d0, d1, d2, p0, p1, p2, rfl, rfl, rfl, h0, h1, h2⟩ := trodAll_three hA
  rw [hvars] at hV
  obtain ⟨rfl, rfl⟩ := trodVars_none hV
  have hp0 : fn.params[0]? = some 25 := by rw [← Array.getElem?_toList, hp]; rfl
  have hp1 : fn.params[1]? = some 3 := by rw [← Array.getElem?_toList, hp]; rfl
  have hp2 : fn.params[2]? = some 4 := by rw [← Array.getElem?_toList, hp]; rfl
  obtain ⟨pg, vw, vf, vp, vb, rfl, hpg, hnear, hrg⟩ := open_program_z (hval 0 _ v0 hp0 rfl) h0 (fun m hm => by
    have := List.all_eq_true.1 hsz m (DataW.weights_mem_each (j := 0) rfl rfl m hm)
    simpa using this)
  obtain ⟨k0, rfl, rfl, rfl, wk0⟩ := open_int Tryd.underlying3 (hval 1 _ v1 hp1 rfl) h1
  obtain ⟨k1, rfl, rfl, rfl⟩ := open_bool Tryd.underlying4 (hval 2 _ v2 hp2 rfl) h2
  refine (walk W pg vw vf vp vb k0 k1 hpg hnear hrg (in64_of_wf wk0)).mono fun e W' ⟨he, hb⟩ => ?_
  exact ⟨_, he, post_true_r hvars (by rw [hp]; simp) hres (by rw [List.append_nil, hspec]; exact ⟨rfl, rfl, rfl⟩) hW' hb⟩
set_option maxRecDepth 100000 in
/-- A law over one api.Program, two ints and an int64. -/
theorem lift_r_int3 {n : FuncId} {fn : Func} {s : ChangeSpec} {conds : List PathCond} {os : Os} {H : Type} {enc : TypeId × Value → H} (started : os.Started) (noInit : Tryd.checked.prog.inits.idxOf? n = none) (hfn : Tryd.checked.prog.funcs[n]? = some fn)
    (hp : fn.params.toList = [25, 3, 3, 2]) (hres : fn.resultTypes = #[4]) (hvars : s.vars = []) (hspec : ∀ d1 d2 d3 d4 : DataW H, s.fn H [d1, d2, d3, d4] = { results := [.lit (.bool true)], args := [d1, d2, d3, d4] })
    (witness : ∃ (w : World) (tape : Tape) (i : Input), w.os = os ∧ (w.forCall tape i).Shaped Tryd.checked.prog ∧ i.vars = [] ∧ Input.okWide Tryd.checked.prog (w.forCall tape i) .any w.heap.size n i ∧
      s.pre6 enc Tryd.checked.prog fn conds false (w.forCall tape i).memory i.args ∧ ({} : Assume).holds Tryd.checked.prog (lone (Frame.enter Tryd.checked.prog n i.args .normal) [] (w.forCall tape i)))
    (walk : ∀ (W : World) (p : Pg) (vw vf : Value) (vp vb : Nat → Value) (k0 : Int) (k1 : Int) (k2 : Int), PgIn W p vw vf vp vb → p.near → p.rng → in64 k0 → in64 k1 → in64 k2 → Calls Tryd.prog n #[pgV vw vf, .int .i64 k0, .int .i64 k1, .int .i64 k2] W (Gives (.bool true) W)) :
    ReturnsInHanded {} Tryd.checked os n .any (s.pre6 enc Tryd.prog fn conds false) (s.post enc Tryd.prog fn false true false false) := by
  refine returnsInHanded_of_change_sized (C := Tryd.checked) Tryd.own started noInit hfn witness ?_
  intro W base args ds gs before hval0 hW _ hsz0 _
  have hsz : (DataW.weightsEach Tryd.prog (fn.params.toList ++ s.plain.varTypes Tryd.prog) (ds ++ gs)).all (· ≤ reachBytes) = true := hsz0
  have hval : ∀ (j : Nat) t v, fn.params[j]? = some t → args[j]? = some v → Value.okWide Tryd.prog W .any base t v := hval0
  clear hval0 hsz0
  have hW' := hW
  obtain ⟨p, q, hA0, hV, rfl, _, _⟩ := hW
  have hA : DataW.TrodAll enc Tryd.prog W 0 (fun _ => true) true fn.params.toList args.toList ds p := hA0
  rw [hp] at hA hsz
  obtain ⟨v0, v1, v2, v3, d0, d1, d2, d3, p0, p1, p2, p3, rfl, rfl, rfl, h0, h1, h2, h3⟩ := trodAll_four hA
  rw [hvars] at hV
  obtain ⟨rfl, rfl⟩ := trodVars_none hV
  have hp0 : fn.params[0]? = some 25 := by rw [← Array.getElem?_toList, hp]; rfl
  have hp1 : fn.params[1]? = some 3 := by rw [← Array.getElem?_toList, hp]; rfl
  have hp2 : fn.params[2]? = some 3 := by rw [← Array.getElem?_toList, hp]; rfl
  have hp3 : fn.params[3]? = some 2 := by rw [← Array.getElem?_toList, hp]; rfl
  obtain ⟨pg, vw, vf, vp, vb, rfl, hpg, hnear, hrg⟩ := open_program_z (hval 0 _ v0 hp0 rfl) h0 (fun m hm => by
    have := List.all_eq_true.1 hsz m (DataW.weights_mem_each (j := 0) rfl rfl m hm)
    simpa using this)
  obtain ⟨k0, rfl, rfl, rfl, wk0⟩ := open_int Tryd.underlying3 (hval 1 _ v1 hp1 rfl) h1
  obtain ⟨k1, rfl, rfl, rfl, wk1⟩ := open_int Tryd.underlying3 (hval 2 _ v2 hp2 rfl) h2
  obtain ⟨k2, rfl, rfl, rfl, wk2⟩ := open_int Tryd.underlying2 (hval 3 _ v3 hp3 rfl) h3
  refine (walk W pg vw vf vp vb k0 k1 k2 hpg hnear hrg (in64_of_wf wk0) (in64_of_wf wk1) (in64_of_wf wk2)).mono fun e W' ⟨he, hb⟩ => ?_
  exact ⟨_, he, post_true_r hvars (by rw [hp]; simp) hres (by rw [List.append_nil, hspec]; exact ⟨rfl, rfl, rfl⟩) hW' hb⟩
end Go.Proofs.YtgobcldecokppaaDoor
