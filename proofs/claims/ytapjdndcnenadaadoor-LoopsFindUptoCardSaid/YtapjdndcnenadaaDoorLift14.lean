/- From a walk over loops, or over a function, that answers true and leaves what was there to the contract that a row with the listed table asks. -/
import Derived.Test.YtapjdndcnenadaaDoorCounts
import Derived.Test.YtapjdndcnenadaaDoorRows
import Derived.LaidMore
import Derived.MakeChecks
import Derived.OpenShut
import Derived.ProofKit
import Derived.Lib.SmallJoins
import Derived.Stop.Joined
import Derived.Test.YtapjdndcnenadaaDoorOpen
import Derived.Test.YtapjdndcnenadaaDoorFindPlain
/- From the listed table to what the walks ask of it: which operations write. -/
namespace Go.Proofs.YtapjdndcnenadaaDoor
open Go.Joins Go.ChangeShapes Go.WideShapes Go.ChangeAt Go.RowKit Go.Deep

def laid2 : List (String × DataW Unit) := [("soffit/code.rows", Rows.laid_soffit_code_rows)]
theorem gRows : Tryd.prog.globalNamed "soffit/code.rows" = some 0 := by kernel_rfl
theorem tRows : (Tryd.prog.globals[0]?).map (·.type) = some 90 := by kernel_rfl
/-- Whether row i's last bit stands. -/
def bitAt (D : DataW Unit) (i : Nat) : Option Bool := match D with
  | .agg l => match (l[i]? : Option (DataW Unit)) with
    | some (.agg r) => match (r[6]? : Option (DataW Unit)) with
      | some (.lit (.bool b)) => some b
      | _ => none
    | _ => none
  | _ => none
theorem bits_are : ∀ i : Nat, i < 20 → bitAt Rows.laid_soffit_code_rows i = some (writesB i) := by decide +kernel

theorem of_laid {W : World} (h : laidMetH Tryd.prog laid2 W) : WritesIn W := by
  rw [MakeChecks.laidMetH_plain _ _ _ (by kernel_rfl)] at h
  obtain ⟨ps, ⟨g0, t0, cs0, f0, p0, q0, hg0, ht0, hv0, hd0, _, _⟩, _, _⟩ := h
  obtain rfl := Option.some.inj (gRows.symm.trans hg0)
  obtain rfl := Option.some.inj (tRows.symm.trans ht0)
  obtain ⟨xs, m1, rfl, hx1, hlen, hn, hel⟩ := DataW.trod_array Tryd.underlying90 hd0
  have c7 : Tryd.prog.cellsOf 89 = 7 := by kernel_rfl
  have cB : Tryd.prog.cellsOf 4 = 1 := by kernel_rfl
  simp only [Prod.mk.injEq] at hx1
  intro i hi
  have hxi : xs[i]? = some (xs[i]'(by omega)) := List.getElem?_eq_getElem _
  have hti := (hel i hi).trans hxi
  rw [c7] at hti
  obtain ⟨zs, n, _, hz, hzc, hzl, hg⟩ := DataW.trod_struct Tryd.underlying89 hti
  rw [c7] at hzc
  have h6 := hg 6 _ rfl
  have hz6 : zs[6]? = some (zs[6]'(by rw [hzl]; decide)) := List.getElem?_eq_getElem _
  rw [hz6] at h6
  obtain ⟨b, es, ez⟩ := DataW.trod_bool Tryd.underlying4 h6
  have hb : bitAt Rows.laid_soffit_code_rows i = some b := by
    have hx : Rows.laid_soffit_code_rows (H := Unit) = .agg (xs.map (·.1)) := hx1.1
    rw [hx]
    unfold bitAt
    simp only [List.getElem?_map, hxi, Option.map_some]
    rw [hz]
    simp only [List.getElem?_map, hz6, Option.map_some, ez]
  rw [bits_are i hi] at hb
  obtain rfl := Option.some.inj hb
  rw [World.var?_cell hg0 hv0]
  have e1 : (((cs0.toList.drop (i * 7)).take 7).drop 6).take 1 = [Value.bool (writesB i)] := by
    have := es
    simpa [cB] using this
  have e2 := congrArg (fun l => l[0]?) e1
  simp at e2
  rw [← Array.getElem?_toList]
  simpa using e2
end Go.Proofs.YtapjdndcnenadaaDoor

/- An argument []api.Loop, opened. -/
namespace Go.Proofs.YtapjdndcnenadaaDoor
open Go.Joins Go.ChangeShapes Go.WideShapes Go.ChangeAt Go.RowKit Go.Deep

section
variable {H : Type} {enc : TypeId × Value → H} {w : World} {base : Nat}
theorem cellsInt : Tryd.prog.cellsOf 3 = 1 := by kernel_rfl
theorem open_ints {n : Nat} {v : Value} {y : DataW H × List MemPlace} (h : DataW.trod enc Tryd.prog w base (fun _ => true) true n 38 [v] = some y) :
    ∃ l : List Int, IntsIn w v l := by
  rcases open_slice Tryd.underlying38 h with ⟨hc, _⟩ | ⟨a, len, cap, m, n', D, Pl, hc, hb, hl, hm, hmm, hx, hall⟩
  · simp only [List.cons.injEq, and_true] at hc
    subst hc
    exact ⟨[], sliceIn_nil w 1⟩
  · simp only [List.cons.injEq, and_true] at hc
    simp only [if_true] at hmm
    subst hc; subst hmm
    have hone : ∀ i, ∃ x : Int, i < m → w.cell? (a.add i) = some (.int .i64 x) := fun i => by
      by_cases hi : i < m
      · obtain ⟨cs', hcs, ht⟩ := hall i hi
        rw [cellsInt, Nat.mul_one] at hcs
        obtain ⟨_, hcl, hat⟩ := World.cells?_some hcs
        obtain ⟨n0, e0, _⟩ := DataW.trod_int Tryd.underlying3 ht
        refine ⟨n0, fun _ => ?_⟩
        have := hat 0 (by omega)
        rw [e0] at this
        rw [Go.Deep.add_add] at this
        simpa using this
      · exact ⟨0, fun h => absurd h hi⟩
    obtain ⟨E, hE⟩ := Classical.axiomOfChoice hone
    refine ⟨(List.range len).map E, ?_⟩
    have := sliceIn_rows (fun x : Int => [Value.int .i64 x]) 1 (fun _ => rfl) (by omega) w a len m E hl hm (fun i hi r u hu => by
      match r with
      | 0 => simp at hu; subst hu; simpa using hE i (by omega)
      | r + 1 => simp at hu)
    unfold IntsIn intVs
    have e : ∀ l : List Int, l.flatMap (fun x : Int => [Value.int .i64 x]) = l.map (Value.int .i64) := fun l => by
      induction l with
      | nil => rfl
      | cons x l ih => simp [ih]
    rw [e] at this
    simpa using this

theorem open_loops {n : Nat} {v : Value} {y : DataW H × List MemPlace} (h : DataW.trod enc Tryd.prog w base (fun _ => true) true n 27 [v] = some y) :
    ∃ l : List LP, LoopsIn w v l := by
  rcases open_slice_fields Tryd.underlying27 Tryd.underlying40 (by kernel_rfl) (by kernel_rfl) h with ⟨hc, _⟩ | ⟨a, len, cap, m, D, Pl, hc, hb, hl, hm, hmm, hx, hall⟩
  · simp only [List.cons.injEq, and_true] at hc
    subst hc
    exact ⟨[], sliceIn_nil w 4, fun x hx => by simp at hx⟩
  · simp only [List.cons.injEq, and_true] at hc
    simp only [if_true] at hmm
    subst hc; subst hmm
    have hone : ∀ i, ∃ x : LP, i < len → (IntsIn w x.vm x.mem ∧ IntsIn w x.vb x.backs) ∧ ∀ r u, x.cells[r]? = some u → w.cell? (a.add (i * 4 + r)) = some u := fun i => by
      by_cases hi : i < len
      · obtain ⟨ys, n', hD, _, hyl, hf⟩ := hall i (by omega)
        obtain ⟨v0, z0, c0, e0, t0⟩ := hf 0 _ rfl
        obtain ⟨v1, z1, c1, e1, t1⟩ := hf 1 _ rfl
        obtain ⟨v2, z2, c2, e2, t2⟩ := hf 2 _ rfl
        obtain ⟨v3, z3, c3, e3, t3⟩ := hf 3 _ rfl
        obtain ⟨n0, en0, _⟩ := DataW.trod_int Tryd.underlying3 t0
        obtain ⟨n1, en1, _⟩ := DataW.trod_int Tryd.underlying3 t1
        obtain ⟨mem, hmem⟩ := open_ints t2
        obtain ⟨backs, hbacks⟩ := open_ints t3
        simp only [List.cons.injEq, and_true] at en0 en1
        subst en0; subst en1
        refine ⟨⟨n0, n1, v2, v3, mem, backs⟩, fun _ => ⟨⟨hmem, hbacks⟩, fun r u hu => ?_⟩⟩
        match r with
        | 0 => simp [LP.cells] at hu; subst hu; exact c0
        | 1 => simp [LP.cells] at hu; subst hu; exact c1
        | 2 => simp [LP.cells] at hu; subst hu; exact c2
        | 3 => simp [LP.cells] at hu; subst hu; exact c3
        | r + 4 => simp [LP.cells] at hu
      · exact ⟨⟨0, 0, .slice none 0 0, .slice none 0 0, [], []⟩, fun h => absurd h hi⟩
    obtain ⟨E, hE⟩ := Classical.axiomOfChoice hone
    refine ⟨(List.range len).map E, ?_, fun x hx => ?_⟩
    · have := sliceIn_rows LP.cells 4 (fun _ => rfl) (by omega) w a len m E hl hm (fun i hi => (hE i hi).2)
      simpa [loopVs] using this
    · obtain ⟨i, hi, rfl⟩ := List.mem_map.1 hx
      exact (hE i (List.mem_range.1 hi)).1
end
end Go.Proofs.YtapjdndcnenadaaDoor

namespace Go.Proofs.YtapjdndcnenadaaDoor
open Go.Joins Go.ChangeShapes Go.WideShapes Go.ChangeAt Go.RowKit Go.Deep

theorem Tryd.own : ownKnob Tryd.prog.godebug = none := by kernel_rfl
theorem Tryd.laidOut : laidOutB Tryd.prog = true := by kernel_rfl
theorem door_met (os : Os) (args : Array Value) : laidMetH Tryd.prog laid2 ((World.doorLaid Tryd.prog 34 os).forCall (fun _ _ => 0) ⟨#[], args, []⟩).memory :=
  laidMetH_of_parts3 (fuel := 8) (laidMet_of_run' 8 (by kernel_rfl) (by kernel_rfl)) (by kernel_rfl) (by kernel_rfl)

section
variable {H : Type} {enc : TypeId × Value → H}

theorem trodAll_stays {W W' : World} {sp : Nat → Bool} : ∀ {ts : List TypeId} {vs : List Value} {ds : List (DataW H)} {ps : List MemPlace}, (∀ t ∈ ts, Tryd.prog.readableRec t = true ∧ t < Tryd.prog.types.size) →
    DataW.TrodAll enc Tryd.prog W 0 (fun _ => true) true ts vs ds ps → Below W.heap.size W W' → (∀ x ∈ ps, x.block < W.heap.size) → (∀ x ∈ ps, sp x.block = true) → DataW.TrodAll enc Tryd.prog W' 0 sp true ts vs ds ps
  | [], [], [], ps, _, h, _, _, _ => h
  | [], [], _ :: _, ps, _, h, _, _, _ => h.elim
  | [], _ :: _, _, ps, _, h, _, _, _ => h.elim
  | _ :: _, [], _, ps, _, h, _, _, _ => h.elim
  | _ :: _, _ :: _, [], ps, _, h, _, _, _ => h.elim
  | t :: ts, v :: vs, d :: ds, ps, hr, h, hb, hlt, hsp => by
    obtain ⟨p, q, h1, h2, rfl⟩ := h
    exact ⟨p, q, WideElems.Trod_stays Tryd.laidOut (hr t (by simp)).1 (hr t (by simp)).2 h1 (fun x hx => hb.same (hlt x (List.mem_append_left _ hx))) (fun x hx => hsp x (List.mem_append_left _ hx)),
      trodAll_stays (fun t ht => hr t (by simp [ht])) h2 hb (fun x hx => hlt x (List.mem_append_right _ hx)) (fun x hx => hsp x (List.mem_append_right _ hx)), rfl⟩

/-- All the argument types of these laws read. -/
theorem reads_types : ∀ t ∈ [27, 3, 25], Tryd.prog.readableRec t = true ∧ t < Tryd.prog.types.size := by
  intro t ht
  simp only [List.mem_cons, List.not_mem_nil, or_false] at ht
  rcases ht with rfl | rfl | rfl
  · exact ⟨by kernel_rfl, of_decide_eq_true (by kernel_rfl)⟩
  · exact ⟨by kernel_rfl, of_decide_eq_true (by kernel_rfl)⟩
  · exact ⟨by kernel_rfl, of_decide_eq_true (by kernel_rfl)⟩

theorem post_true {fn : Func} {s : ChangeSpec} {W W' : World} {args : Array Value} {ds gs : List (DataW H)} {before : List MemPlace} (hvars : s.vars = []) (hts : ∀ t ∈ fn.params.toList, t ∈ [27, 3, 25]) (hres : fn.resultTypes = #[4])
    (hspec : (s.fn H (ds ++ gs)).results = [.lit (.bool true)] ∧ (s.fn H (ds ++ gs)).args = ds ∧ (s.fn H (ds ++ gs)).vars = [])
    (hW : DataW.Whole enc Tryd.prog fn.params.toList s.vars false W args.toList ds gs before) (hb : Below W.heap.size W W') : s.post enc Tryd.prog fn false true false false W args (.bool true) W' := by
  have hlt : ∀ p ∈ before, p.block < W.heap.size := fun p hp => by simpa using hW.lt p hp
  have hW0 := hW
  obtain ⟨p, q, hA, hV, rfl, _, _⟩ := hW0
  rw [hvars] at hV
  obtain ⟨rfl, rfl⟩ := trodVars_none hV
  refine ⟨ds, [], p ++ [], [], p, [], hW, ?_, ?_, ?_, hb.frame _, fun h => by cases h⟩
  · rw [hspec.1, hres]
    exact trodAll_mk1 (shut_bool Tryd.underlying4 true)
  · rw [hspec.2.1]
    exact trodAll_stays (fun t ht => reads_types t (hts t ht)) hA hb (fun x hx => hlt x (by simpa using hx)) (fun x hx => by simpa using hlt x (by simpa using hx))
  · rw [hspec.2.2, hvars]
    rfl
end

/-- The witness that these rows ask. -/
abbrev Witness (n : FuncId) (fn : Func) (s : ChangeSpec) (conds : List PathCond) (os : Os) {H : Type} (enc : TypeId × Value → H) : Prop :=
  ∃ (w : World) (tape : Tape) (i : Input), w.os = os ∧ (w.forCall tape i).Shaped Tryd.checked.prog ∧ i.vars = [] ∧ Input.okWide Tryd.checked.prog (w.forCall tape i) .any w.heap.size n i ∧
    ((s.pre enc Tryd.checked.prog fn conds false (w.forCall tape i).memory i.args ∧ laidMetH Tryd.prog laid2 (w.forCall tape i).memory) ∧ sizedMet enc Tryd.checked.prog fn (OpenSpec.ofChange s) false (w.forCall tape i).memory i.args) ∧ ({} : Assume).holds Tryd.checked.prog (lone (Frame.enter Tryd.checked.prog n i.args .normal) [] (w.forCall tape i))

set_option maxRecDepth 100000 in
/-- A law over a list of loops and an int. -/
theorem lift_loops_int {n : FuncId} {fn : Func} {s : ChangeSpec} {conds : List PathCond} {os : Os} {H : Type} {enc : TypeId × Value → H} (started : os.Started) (noInit : Tryd.checked.prog.inits.idxOf? n = none) (hfn : Tryd.checked.prog.funcs[n]? = some fn)
    (hp : fn.params.toList = [27, 3]) (hres : fn.resultTypes = #[4]) (hvars : s.vars = []) (hspec : ∀ d1 d2 : DataW H, s.fn H [d1, d2] = { results := [.lit (.bool true)], args := [d1, d2] })
    (witness : Witness n fn s conds os enc)
    (walk : ∀ (W : World) (v : Value) (l : List LP) (k : Int), LoopsIn W v l → WritesIn W → Calls Tryd.prog n #[v, .int .i64 k] W (Gives (.bool true) W)) :
    ReturnsInHanded {} Tryd.checked os n .any (fun w args => (s.pre enc Tryd.prog fn conds false w args ∧ laidMetH Tryd.prog laid2 w) ∧ sizedMet enc Tryd.prog fn (OpenSpec.ofChange s) false w args) (s.post enc Tryd.prog fn false true false false) := by
  refine returnsInHanded_of_change_and (C := Tryd.checked) (X := fun w _ => laidMetH Tryd.prog laid2 w) (fun _ _ _ hh h => h.of_heap hh) Tryd.own started noInit hfn witness ?_
  intro W base args ds gs before hval0 hW _ hsz0 hL _
  have hval : ∀ (j : Nat) t v, fn.params[j]? = some t → args[j]? = some v → Value.okWide Tryd.prog W .any base t v := hval0
  clear hsz0 hval0
  have hW' := hW
  obtain ⟨p, q, hA0, hV, rfl, _, _⟩ := hW
  have hA : DataW.TrodAll enc Tryd.prog W 0 (fun _ => true) true fn.params.toList args.toList ds p := hA0
  rw [hp] at hA
  obtain ⟨v0, v1, d0, d1, p0, p1, rfl, rfl, rfl, h0, h1⟩ := trodAll_two hA
  rw [hvars] at hV
  obtain ⟨rfl, rfl⟩ := trodVars_none hV
  have hp0 : fn.params[0]? = some 27 := by rw [← Array.getElem?_toList, hp]; rfl
  have hp1 : fn.params[1]? = some 3 := by rw [← Array.getElem?_toList, hp]; rfl
  obtain ⟨a0, len, cap, rfl⟩ := okWide_slice Tryd.underlying27 (hval 0 _ v0 hp0 rfl)
  obtain ⟨fuel, hf⟩ := h0
  obtain ⟨l, hl⟩ := open_loops hf
  obtain ⟨k, rfl, rfl, rfl, wk⟩ := open_int Tryd.underlying3 (hval 1 _ v1 hp1 rfl) h1
  refine (walk W _ l k hl (of_laid hL)).mono fun e W' ⟨he, hb⟩ => ?_
  exact ⟨_, he, post_true hvars (by rw [hp]; simp) hres (by rw [List.append_nil, hspec]; exact ⟨rfl, rfl, rfl⟩) hW' hb⟩

set_option maxRecDepth 100000 in
/-- A law over one api.Func. -/
theorem lift_func {n : FuncId} {fn : Func} {s : ChangeSpec} {conds : List PathCond} {os : Os} {H : Type} {enc : TypeId × Value → H} (started : os.Started) (noInit : Tryd.checked.prog.inits.idxOf? n = none) (hfn : Tryd.checked.prog.funcs[n]? = some fn)
    (hp : fn.params.toList = [25]) (hres : fn.resultTypes = #[4]) (hvars : s.vars = []) (hspec : ∀ d : DataW H, s.fn H [d] = { results := [.lit (.bool true)], args := [d] })
    (witness : Witness n fn s conds os enc)
    (walk : ∀ (W : World) (s : ByteArray) (vp : Value) (regs words : Int) (vc : Value) (params : List Span) (code : List Ins), FuncArg W s vp regs words vc params code → WritesIn W → Calls Tryd.prog n #[fnV s vp regs words vc] W (Gives (.bool true) W)) :
    ReturnsInHanded {} Tryd.checked os n .any (fun w args => (s.pre enc Tryd.prog fn conds false w args ∧ laidMetH Tryd.prog laid2 w) ∧ sizedMet enc Tryd.prog fn (OpenSpec.ofChange s) false w args) (s.post enc Tryd.prog fn false true false false) := by
  refine returnsInHanded_of_change_and (C := Tryd.checked) (X := fun w _ => laidMetH Tryd.prog laid2 w) (fun _ _ _ hh h => h.of_heap hh) Tryd.own started noInit hfn witness ?_
  intro W base args ds gs before hval0 hW _ hsz0 hL _
  have hsz : (DataW.weightsEach Tryd.prog (fn.params.toList ++ s.plain.varTypes Tryd.prog) (ds ++ gs)).all (· ≤ reachBytes) = true := hsz0
  have hval : ∀ (j : Nat) t v, fn.params[j]? = some t → args[j]? = some v → Value.okWide Tryd.prog W .any base t v := hval0
  clear hsz0 hval0
  have hW' := hW
  obtain ⟨p, q, hA0, hV, rfl, _, _⟩ := hW
  have hA : DataW.TrodAll enc Tryd.prog W 0 (fun _ => true) true fn.params.toList args.toList ds p := hA0
  rw [hp] at hA hsz
  obtain ⟨v0, d0, rfl, rfl, h0⟩ := trodAll_one hA
  rw [hvars] at hV
  obtain ⟨rfl, rfl⟩ := trodVars_none hV
  have hp0 : fn.params[0]? = some 25 := by rw [← Array.getElem?_toList, hp]; rfl
  obtain ⟨sb, vp, regs, words, vc, params, code, rfl, hf⟩ := open_func (hval 0 _ v0 hp0 rfl) h0 (fun m hm => by
    have := List.all_eq_true.1 hsz m (DataW.weights_mem_each (j := 0) rfl rfl m hm)
    simpa using this)
  refine (walk W sb vp regs words vc params code hf (of_laid hL)).mono fun e W' ⟨he, hb⟩ => ?_
  exact ⟨_, he, post_true hvars (by rw [hp]; simp) hres (by rw [List.append_nil, hspec]; exact ⟨rfl, rfl, rfl⟩) hW' hb⟩
end Go.Proofs.YtapjdndcnenadaaDoor
