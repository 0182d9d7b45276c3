/- For every input api.Program, soffitlaw22.GenMay returns true, and the input reads behind the call as it did before; the one condition: the variable soffit/code.rows reads as its program's text lays it (tied). -/
import Derived.Test.YtgobcldecokppaaDoorGnIns
import Derived.Test.YtgobcldecokppaaDoorRgLift
import Derived.LaidMore
import Derived.MakeChecks
import Derived.Stop.Joined
import Derived.Test.YtgobcldecokppaaDoorGnMayW
import Derived.Test.YtgobcldecokppaaDoorGnAwk
import Derived.IntWalk
import Derived.Test.YtgobcldecokppaaDoorTie
import Derived.Test.YtgobcldecokppaaDoorCards
/- soffitlaw22.GenMay: the walk. -/
/- From the listed table of operations to what the walks ask of it; and from a walk over a program to the contract that a row with the listed table asks. -/
namespace Go.Proofs.YtgobcldecokppaaDoor
open Go.Joins Go.ChangeShapes Go.WideShapes Go.ChangeAt Go.RowKit Go.Deep

def laid2 : List (String × DataW Unit) := [("soffit/code.rows", Rows.laid_soffit_code_rows)]
theorem gRows : Tryd.prog.globalNamed "soffit/code.rows" = some 0 := by kernel_rfl
theorem tRows : (Tryd.prog.globals[0]?).map (·.type) = some 98 := by kernel_rfl
/-- What stands in row i's field j. -/
def litAt (D : DataW Unit) (i j : Nat) : Option Lit := match D with
  | .agg l => match (l[i]? : Option (DataW Unit)) with
    | some (.agg r) => match (r[j]? : Option (DataW Unit)) with
      | some (.lit x) => some x
      | _ => none
    | _ => none
  | _ => none
def bolOf : Option Lit → Option Bool
  | some (.bool b) => some b
  | _ => none
def numOf : Option Lit → Option Int
  | some (.int _ n) => some n
  | _ => none
theorem bools_are : ∀ i : Nat, i < 20 → bolOf (litAt Rows.laid_soffit_code_rows i 2) = some (hasA i) ∧ bolOf (litAt Rows.laid_soffit_code_rows i 3) = some (hasB i) ∧ bolOf (litAt Rows.laid_soffit_code_rows i 4) = some (hasC i) ∧ numOf (litAt Rows.laid_soffit_code_rows i 5) = some (kindN i) := by decide +kernel

theorem of_laidT {W : World} (h : laidMetH Tryd.prog laid2 W) : TabIn W := by
  rw [MakeChecks.laidMetH_plain _ _ _ (by kernel_rfl)] at h
  obtain ⟨ps, ⟨g0, t0, cs0, f0, p0, q0, hg0, ht0, hv0, hd0, _, _⟩, _, _⟩ := h
  obtain rfl := Option.some.inj (gRows.symm.trans hg0)
  obtain rfl := Option.some.inj (tRows.symm.trans ht0)
  obtain ⟨xs, m1, rfl, hx1, hlen, hn, hel⟩ := DataW.trod_array Tryd.underlying98 hd0
  have c7 : Tryd.prog.cellsOf 97 = 7 := by kernel_rfl
  have cB : Tryd.prog.cellsOf 4 = 1 := by kernel_rfl
  have cS : Tryd.prog.cellsOf 9 = 1 := by kernel_rfl
  have cI : Tryd.prog.cellsOf 3 = 1 := by kernel_rfl
  have cL : Tryd.prog.cellsOf 2 = 1 := by kernel_rfl
  simp only [Prod.mk.injEq] at hx1
  intro i hi
  have hxi : xs[i]? = some (xs[i]'(by omega)) := List.getElem?_eq_getElem _
  have hti := (hel i hi).trans hxi
  rw [c7] at hti
  obtain ⟨zs, n, _, hz, hzc, hzl, hg⟩ := DataW.trod_struct Tryd.underlying97 hti
  rw [c7] at hzc
  have hz7 : zs.length = 7 := hzl
  have at_ : ∀ j (v : Value), (((cs0.toList.drop (i * 7)).take 7).drop j).take 1 = [v] → W.cell? ⟨0, i * 7 + j, none⟩ = some v := fun j v e1 => by
    rw [World.var?_cell hg0 hv0]
    have e2 := congrArg (fun l => l[0]?) e1
    simp only [List.getElem?_take, List.getElem?_drop] at e2
    rw [← Array.getElem?_toList]
    split at e2
    · split at e2
      · rw [← Nat.add_assoc] at e2; simpa using e2
      · simp at e2
    · simp at e2
  have lit_ : ∀ j (x : Lit) (hj : j < 7), (zs[j]'(by omega)).1 = .lit x → litAt Rows.laid_soffit_code_rows i j = some x := fun j x hj ez => by
    have hx : Rows.laid_soffit_code_rows (H := Unit) = .agg (xs.map (·.1)) := hx1.1
    have hzj : zs[j]? = some (zs[j]'(by omega)) := List.getElem?_eq_getElem _
    rw [hx]
    unfold litAt
    simp only [List.getElem?_map, hxi, Option.map_some]
    rw [hz]
    simp only [List.getElem?_map, hzj, Option.map_some, ez]
  obtain ⟨b2, b3, b4, b5⟩ := bools_are i hi
  have get : ∀ j (hj : j < 7), zs[j]? = some (zs[j]'(by omega)) := fun j hj => List.getElem?_eq_getElem _
  have h0 := hg 0 _ rfl
  have h1 := hg 1 _ rfl
  have h2 := hg 2 _ rfl
  have h3 := hg 3 _ rfl
  have h4 := hg 4 _ rfl
  have h5 := hg 5 _ rfl
  have h6 := hg 6 _ rfl
  rw [get 0 (by omega)] at h0
  rw [get 1 (by omega)] at h1
  rw [get 2 (by omega)] at h2
  rw [get 3 (by omega)] at h3
  rw [get 4 (by omega)] at h4
  rw [get 5 (by omega)] at h5
  rw [get 6 (by omega)] at h6
  obtain ⟨s, e0, _⟩ := DataW.trod_string Tryd.underlying9 h0
  obtain ⟨n1, e1, _⟩ := DataW.trod_int Tryd.underlying2 h1
  obtain ⟨x2, e2, y2⟩ := DataW.trod_bool Tryd.underlying4 h2
  obtain ⟨x3, e3, y3⟩ := DataW.trod_bool Tryd.underlying4 h3
  obtain ⟨x4, e4, y4⟩ := DataW.trod_bool Tryd.underlying4 h4
  obtain ⟨x5, e5, y5, _⟩ := DataW.trod_int Tryd.underlying3 h5
  obtain ⟨x6, e6, _⟩ := DataW.trod_bool Tryd.underlying4 h6
  have z2 := lit_ 2 _ (by omega) (by rw [y2])
  have z3 := lit_ 3 _ (by omega) (by rw [y3])
  have z4 := lit_ 4 _ (by omega) (by rw [y4])
  have z5 := lit_ 5 _ (by omega) (by rw [y5])
  rw [z2] at b2
  rw [z3] at b3
  rw [z4] at b4
  rw [z5] at b5
  have b2 : x2 = hasA i := Option.some.inj b2
  have b3 : x3 = hasB i := Option.some.inj b3
  have b4 : x4 = hasC i := Option.some.inj b4
  have b5 : x5 = kindN i := Option.some.inj b5
  subst b2
  subst b3
  subst b4
  subst b5
  refine ⟨s, n1, x6, ?_, at_ 1 _ (by simpa [cL] using e1), at_ 2 _ (by simpa [cB] using e2), at_ 3 _ (by simpa [cB] using e3), at_ 4 _ (by simpa [cB] using e4), at_ 5 _ (by simpa [cI] using e5), at_ 6 _ (by simpa [cB] using e6)⟩
  have := at_ 0 _ (by simpa [cS] using e0)
  simpa using this
theorem door_met (os : Os) (args : Array Value) : laidMetH Tryd.prog laid2 ((World.doorLaid Tryd.prog 34 os).forCall (fun _ _ => 0) ⟨#[], args, []⟩).memory :=
  laidMetH_of_parts3 (fuel := 8) (laidMet_of_run' 8 (by kernel_rfl) (by kernel_rfl)) (by kernel_rfl) (by kernel_rfl)
/-- The witness that these rows ask. -/
abbrev WitnessL (n : FuncId) (fn : Func) (s : ChangeSpec) (conds : List PathCond) (os : Os) {H : Type} (enc : TypeId × Value → H) : Prop :=
  ∃ (w : World) (tape : Tape) (i : Input), w.os = os ∧ (w.forCall tape i).Shaped Tryd.checked.prog ∧ i.vars = [] ∧ Input.okWide Tryd.checked.prog (w.forCall tape i) .any w.heap.size n i ∧
    ((s.pre enc Tryd.checked.prog fn conds false (w.forCall tape i).memory i.args ∧ laidMetH Tryd.prog laid2 (w.forCall tape i).memory) ∧ sizedMet enc Tryd.checked.prog fn (OpenSpec.ofChange s) false (w.forCall tape i).memory i.args) ∧ ({} : Assume).holds Tryd.checked.prog (lone (Frame.enter Tryd.checked.prog n i.args .normal) [] (w.forCall tape i))
set_option maxRecDepth 100000 in
/-- A law over one api.Program, the table being laid. -/
theorem lift_r_laid {n : FuncId} {fn : Func} {s : ChangeSpec} {conds : List PathCond} {os : Os} {H : Type} {enc : TypeId × Value → H} (started : os.Started) (noInit : Tryd.checked.prog.inits.idxOf? n = none) (hfn : Tryd.checked.prog.funcs[n]? = some fn)
    (hp : fn.params.toList = [25]) (hres : fn.resultTypes = #[4]) (hvars : s.vars = []) (hspec : ∀ d : DataW H, s.fn H [d] = { results := [.lit (.bool true)], args := [d] })
    (witness : WitnessL n fn s conds os enc)
    (walk : ∀ (W : World) (p : Pg) (vw vf : Value) (vp vb : Nat → Value), PgIn W p vw vf vp vb → p.near → p.rng → TabIn W → Calls Tryd.prog n #[pgV vw vf] W (Gives (.bool true) W)) :
    ReturnsInHanded {} Tryd.checked os n .any (fun w args => (s.pre enc Tryd.prog fn conds false w args ∧ laidMetH Tryd.prog laid2 w) ∧ sizedMet enc Tryd.prog fn (OpenSpec.ofChange s) false w args) (s.post enc Tryd.prog fn false true false false) := by
  refine returnsInHanded_of_change_and (C := Tryd.checked) (X := fun w _ => laidMetH Tryd.prog laid2 w) (fun _ _ _ hh h => h.of_heap hh) Tryd.own started noInit hfn witness ?_
  intro W base args ds gs before hval0 hW _ hsz0 hL _
  have hsz : (DataW.weightsEach Tryd.prog (fn.params.toList ++ s.plain.varTypes Tryd.prog) (ds ++ gs)).all (· ≤ reachBytes) = true := hsz0
  have hval : ∀ (j : Nat) t v, fn.params[j]? = some t → args[j]? = some v → Value.okWide Tryd.prog W .any base t v := hval0
  clear hsz0 hval0
  have hW' := hW
  obtain ⟨p, q, hA0, hV, rfl, _, _⟩ := hW
  have hA : DataW.TrodAll enc Tryd.prog W 0 (fun _ => true) true fn.params.toList args.toList ds p := hA0
  rw [hp] at hA hsz
  obtain ⟨v0, d0, rfl, rfl, h0⟩ := trodAll_one hA
  rw [hvars] at hV
  obtain ⟨rfl, rfl⟩ := trodVars_none hV
  have hp0 : fn.params[0]? = some 25 := by rw [← Array.getElem?_toList, hp]; rfl
  obtain ⟨pg, vw, vf, vp, vb, rfl, hpg, hnear, hrg⟩ := open_program_z (hval 0 _ v0 hp0 rfl) h0 (fun m hm => by
    have := List.all_eq_true.1 hsz m (DataW.weights_mem_each (j := 0) rfl rfl m hm)
    simpa using this)
  refine (walk W pg vw vf vp vb hpg hnear hrg (of_laidT hL)).mono fun e W' ⟨he, hb⟩ => ?_
  exact ⟨_, he, post_true_r hvars (by rw [hp]; simp) hres (by rw [List.append_nil, hspec]; exact ⟨rfl, rfl, rfl⟩) hW' hb⟩
end Go.Proofs.YtgobcldecokppaaDoor

namespace Go.Proofs.YtgobcldecokppaaDoor
open Go.RowKit Go.Maps

theorem eql_fltM (w : World) (a b c : Int) : (Go.binOp .eql 32 (.agg #[.int .i64 a, .int .i64 b, .int .i64 c]) (.agg #[.int .i64 a, .int .i64 b, .int .i64 c])).run Tryd.prog w = .ok (.bool true) w := by
  simp [go_sem, Tryd.underlying32, Tryd.underlying3, Tryd.underlying30]
theorem neq_fltM (w : World) (a b c : Int) : (Go.binOp .neq 32 (.agg #[.int .i64 a, .int .i64 b, .int .i64 c]) (.agg #[.int .i64 a, .int .i64 b, .int .i64 c])).run Tryd.prog w = .ok (.bool false) w := by
  simp [go_sem, Tryd.underlying32, Tryd.underlying3, Tryd.underlying30]
theorem neq_prrM (w : World) (a b : Int) : (Go.binOp .neq 47 (.agg #[.int .i64 a, .int .i64 b]) (.agg #[.int .i64 a, .int .i64 b])).run Tryd.prog w = .ok (.bool false) w := by
  simp [go_sem, Tryd.underlying47, Tryd.underlying2]
theorem gnAll_flt : ∀ (l : List Fn) (i : Nat) (F : ByteArray → Int), (gnAll l i F).2.1 ≠ 0 → ((gnAll l i F).2.1 = 95 ∨ (gnAll l i F).2.1 = 96 ∨ (gnAll l i F).2.1 = 97) ∧ (gnAll l i F).2.2.2 = 0 ∧ (i : Int) ≤ (gnAll l i F).2.2.1 ∧ (gnAll l i F).2.2.1 < ((i + l.length : Nat) : Int)
  | [], _, _, h => absurd rfl h
  | f :: l, i, F, h => by
    simp only [gnAll] at h ⊢
    by_cases hb : (gnFun F f).bad = 0
    · rw [if_neg (by rw [hb]; decide)] at h ⊢
      obtain ⟨h1, h2, h3, h4⟩ := gnAll_flt l (i + 1) _ h
      have h5 : ((i + 1 : Nat) : Int) = (i : Int) + 1 := by omega
      refine ⟨h1, h2, ?_, ?_⟩
      · show (i : Int) ≤ (gnAll l (i + 1) (putF F f.name (i : Int))).2.2.1
        omega
      · show (gnAll l (i + 1) (putF F f.name (i : Int))).2.2.1 < _
        simp only [List.length_cons]
        omega
    · rw [if_pos hb]
      refine ⟨?_, rfl, Int.le_refl _, ?_⟩
      · show (gnFun F f).bad = 95 ∨ (gnFun F f).bad = 96 ∨ (gnFun F f).bad = 97
        unfold GFun.bad at hb ⊢
        split
        · simp
        split
        · simp
        split
        · simp
        rename_i h1 h2 h3
        rw [if_neg h1, if_neg h2, if_neg h3] at hb
        exact absurd rfl hb
      · show (i : Int) < _
        simp only [List.length_cons]
        omega
theorem gmod_flt {p : Pg} (h0 : p.rfault.1 = 0) (h : p.gmod.2.2.1 ≠ 0) : (p.gmod.2.2.1 = 95 ∨ p.gmod.2.2.1 = 96 ∨ p.gmod.2.2.1 = 97) ∧ p.gmod.2.2.2.2 = 0 ∧ 0 ≤ p.gmod.2.2.2.1 ∧ p.gmod.2.2.2.1 < (p.funcs.length : Int) ∧ p.gmod.2.1 = [] := by
  unfold Pg.gmod at h ⊢
  rw [if_neg (by rw [h0]; decide)] at h ⊢
  by_cases h5 : (gnAll p.funcs 0 (fun _ => 0)).2.1 = 0
  · rw [if_neg (by rw [h5]; decide)] at h; exact absurd h5 h
  · rw [if_pos h5]
    obtain ⟨h1, h2, h3, h4⟩ := gnAll_flt p.funcs 0 _ h5
    exact ⟨h1, h2, h3, by simpa using h4, rfl⟩
theorem gmod_badM {p : Pg} (h : p.rfault.1 ≠ 0) : p.gmod = ([], [], p.rfault) := by unfold Pg.gmod; rw [if_pos h]
set_option maxRecDepth 100000 in
set_option maxHeartbeats 8000000 in
theorem gnLawMay_any (W : World) (p : Pg) (vw vf : Value) (vp vb : Nat → Value) (h : PgIn W p vw vf vp vb) (_ : p.near) (hrg : p.rng) (hT : TabIn W) : Calls Tryd.prog 3 #[pgV vw vf] W (Gives (.bool true) W) := by
  obtain ⟨aw, cw, rfl, -⟩ := h.widen.row.form
  obtain ⟨a, cap, rfl, hc1, hc2⟩ := h.funcs.row.form
  obtain ⟨n, hn⟩ : ∃ n, n = p.funcs.length := ⟨_, rfl⟩
  obtain ⟨m, hm⟩ : ∃ m, m = p.widen.length := ⟨_, rfl⟩
  rw [← hn, ← hm] at h
  rw [← hn, ← hm]
  rw [← hn] at hc1
  have hn62 : n ≤ 9223372036854775807 := by have : maxLen ≤ 9223372036854775807 := by decide
                                            omega
  have HP := Lib.hid h
  have Hrg := Lib.hid hrg
  have HT := Lib.hid hT
  have Hl := Lib.hid (And.intro hm hn)
  obtain ⟨W1, hW1⟩ : ∃ W1, W1 = W.alloc (.cells #[.slice aw m cw, .slice a n cap] 25) := ⟨_, rfl⟩
  obtain ⟨B, hB⟩ : ∃ B, B = W.heap.size := ⟨_, rfl⟩
  have hb1 : Below W.heap.size W W1 := by rw [hW1]; exact (Below.refl _ _).alloc (Nat.le_refl _) _
  have c0 : W1.cell? ⟨B, 0, none⟩ = some (.slice aw m cw) := by rw [hW1, hB]; exact World.cell?_alloc_at _ _ _ _ rfl
  have c1 : W1.cell? ⟨B, 1, none⟩ = some (.slice a n cap) := by rw [hW1, hB]; exact World.cell?_alloc_at _ _ _ _ rfl
  have qB : B < W1.heap.size := by rw [hW1, hB]; simp
  have HW1 := Lib.hid (And.intro hW1 hB)
  have H1 := Lib.hid (And.intro hb1 (And.intro c0 c1))
  unfold pgV
  clear h hn hm hrg hT hW1 hB hb1 c0 c1 hc1 hc2
  go_enter Tryd.func3, Tryd.ntmps3
  go_upto_region 1 with (fail)
  rw [← HW1.out.1, ← HW1.out.2]
  go_wp2_with fail
  refine (gnAwake_any W1).mono ?_
  rintro e w2 ⟨rfl, hb2⟩
  have d0 := (hb2.cell (p := ⟨B, 0, none⟩) qB).trans H1.out.2.1
  have d1 := (hb2.cell (p := ⟨B, 1, none⟩) qB).trans H1.out.2.2
  have H2 := Lib.hid (And.intro (H1.out.1.trans (hb2.mono H1.out.1.size)) (And.intro d0 d1))
  have q2 : B < w2.heap.size := Nat.lt_of_lt_of_le qB hb2.size
  clear hb2
  have hcall := gmod_any p (.slice aw m cw) (.slice a n cap) vp vb w2 (HP.out.later H2.out.1) Hrg.out
  obtain ⟨t, ht⟩ : ∃ t, t = p.gmod.2.2 := ⟨_, rfl⟩
  rw [← ht] at hcall
  have Ht := Lib.hid ht
  obtain ⟨ea, eb, ec⟩ := t
  unfold pgV fltV at hcall
  simp only at hcall
  have Hcall := Lib.hid hcall
  clear hcall ht
  go_wp2_with fail
  refine Hcall.out.mono ?_
  rintro E w3 ⟨vt, vm, rfl, hb3, l, hl, hG⟩
  obtain ⟨-, ta, tc, rfl, -⟩ := SliceIn.of_owns hG.thr
  obtain ⟨-, ma, mc, rfl, hmc, hmx, -⟩ := SliceIn.of_owns hG.row
  obtain ⟨tn, htn⟩ : ∃ tn, tn = p.gmod.1.length := ⟨_, rfl⟩
  obtain ⟨mn, hmn⟩ : ∃ mn, mn = l.length := ⟨_, rfl⟩
  have hG := hG.reads
  rw [← htn, ← hmn] at hG ⊢
  rw [← hmn] at hmc
  have hm62 : mn ≤ 9223372036854775807 := by have : maxLen ≤ 9223372036854775807 := by decide
                                             omega
  obtain ⟨V1, hV1⟩ : ∃ w : World, w = w3.alloc (.cells #[.slice ta tn tc, .slice ma mn mc] 29) := ⟨_, rfl⟩
  obtain ⟨V2, hV2⟩ : ∃ w : World, w = V1.alloc (.cells #[.int .i64 ea, .int .i64 eb, .int .i64 ec] 32) := ⟨_, rfl⟩
  obtain ⟨M, hM⟩ : ∃ M, M = w3.heap.size := ⟨_, rfl⟩
  have z1 : V1.heap.size = M + 1 := by rw [hV1, hM]; simp
  have a1 : Below w3.heap.size w3 V1 := by rw [hV1]; exact (Below.refl _ _).alloc (Nat.le_refl _) _
  have a2 : Below V1.heap.size V1 V2 := by rw [hV2]; exact (Below.refl _ _).alloc (Nat.le_refl _) _
  have a12 : Below w3.heap.size w3 V2 := a1.trans (a2.mono a1.size)
  have b23 : Below w2.heap.size w2 V2 := hb3.trans (a12.mono hb3.size)
  have qM : M < V1.heap.size := by omega
  have g0 : V2.cell? ⟨M, 0, none⟩ = some (.slice ta tn tc) := by
    have h0 : V1.cell? ⟨M, 0, none⟩ = some (.slice ta tn tc) := by rw [hV1]; exact World.cell?_alloc_at _ _ _ _ hM
    exact (a2.cell (p := ⟨M, 0, none⟩) qM).trans h0
  have g1 : V2.cell? ⟨M, 1, none⟩ = some (.slice ma mn mc) := by
    have h0 : V1.cell? ⟨M, 1, none⟩ = some (.slice ma mn mc) := by rw [hV1]; exact World.cell?_alloc_at _ _ _ _ hM
    exact (a2.cell (p := ⟨M, 1, none⟩) qM).trans h0
  have f0 : V2.cell? ⟨M + 1, 0, none⟩ = some (.int .i64 ea) := by rw [hV2]; exact World.cell?_alloc_at _ _ _ _ z1.symm
  have f1 : V2.cell? ⟨M + 1, 1, none⟩ = some (.int .i64 eb) := by rw [hV2]; exact World.cell?_alloc_at _ _ _ _ z1.symm
  have f2 : V2.cell? ⟨M + 1, 2, none⟩ = some (.int .i64 ec) := by rw [hV2]; exact World.cell?_alloc_at _ _ _ _ z1.symm
  have e0 := (b23.cell (p := ⟨B, 0, none⟩) q2).trans d0
  have e1 := (b23.cell (p := ⟨B, 1, none⟩) q2).trans d1
  have H3 := Lib.hid (And.intro (H2.out.1.trans (b23.mono H2.out.1.size)) (And.intro (hG.later a12) (And.intro hl (And.intro hmn htn))))
  have HV := Lib.hid (And.intro hM (And.intro hV1 hV2))
  clear a1 a2 a12 b23 hV1 hV2 hM hb3 hG hl hmn htn d0 d1 Hcall z1 qM hmx hmc
  go_upto_region 4 with (fail)
  rw [← HV.out.1, ← HV.out.2.1, ← HV.out.2.2]
  have hcall := rgCheck_any p (.slice aw m cw) (.slice a n cap) vp vb V2 (HP.out.later H3.out.1) Hrg.out
  obtain ⟨u, hu⟩ : ∃ u, u = p.rfault := ⟨_, rfl⟩
  rw [← hu] at hcall
  have Hu := Lib.hid hu
  obtain ⟨ra, rb, rc⟩ := u
  unfold pgV fltV at hcall
  simp only at hcall
  have Hcall := Lib.hid hcall
  clear hcall hu
  go_wp2_with fail
  refine Hcall.out.mono ?_
  rintro e w4 ⟨rfl, hb4⟩
  obtain ⟨V5, hV5⟩ : ∃ w : World, w = w4.alloc (.cells #[.int .i64 ra, .int .i64 rb, .int .i64 rc] 32) := ⟨_, rfl⟩
  obtain ⟨C, hC⟩ : ∃ C, C = w4.heap.size := ⟨_, rfl⟩
  have b45 : Below w4.heap.size w4 V5 := by rw [hV5]; exact (Below.refl _ _).alloc (Nat.le_refl _) _
  have b5 : Below V2.heap.size V2 V5 := hb4.trans (b45.mono hb4.size)
  have i0 := (b5.cell (p := ⟨B, 0, none⟩) (block_lt_of_cell e0)).trans e0
  have i1 := (b5.cell (p := ⟨B, 1, none⟩) (block_lt_of_cell e1)).trans e1
  have j0 := (b5.cell (p := ⟨M, 0, none⟩) (block_lt_of_cell g0)).trans g0
  have j1 := (b5.cell (p := ⟨M, 1, none⟩) (block_lt_of_cell g1)).trans g1
  have l0 := (b5.cell (p := ⟨M + 1, 0, none⟩) (block_lt_of_cell f0)).trans f0
  have l1 := (b5.cell (p := ⟨M + 1, 1, none⟩) (block_lt_of_cell f1)).trans f1
  have l2 := (b5.cell (p := ⟨M + 1, 2, none⟩) (block_lt_of_cell f2)).trans f2
  have k0 : V5.cell? ⟨C, 0, none⟩ = some (.int .i64 ra) := by rw [hV5]; exact World.cell?_alloc_at _ _ _ _ hC
  have k1 : V5.cell? ⟨C, 1, none⟩ = some (.int .i64 rb) := by rw [hV5]; exact World.cell?_alloc_at _ _ _ _ hC
  have k2 : V5.cell? ⟨C, 2, none⟩ = some (.int .i64 rc) := by rw [hV5]; exact World.cell?_alloc_at _ _ _ _ hC
  have H4 := Lib.hid (And.intro (H3.out.1.trans (b5.mono H3.out.1.size)) (H3.out.2.1.later b5))
  have HV5 := Lib.hid (And.intro hC hV5)
  have hef := eql_fltM
  have hnf := neq_fltM
  have hnp := neq_prrM
  clear hb4 b45 b5 hV5 hC e0 e1 g0 g1 f0 f1 f2 Hcall
  go_upto_region 5 with (fail)
  rw [← HV5.out.1, ← HV5.out.2]
  by_cases hr0 : ra = 0
  · subst hr0
    by_cases hea : ea = 0
    · subst hea
      obtain ⟨hMay, hth, hlen, hnth⟩ := gmod_may (p := p) (by rw [← Ht.out])
      have hmn : mn = n := by
        have e := congrArg List.length H3.out.2.2.1
        rw [List.length_map, ← H3.out.2.2.2.1, hlen, ← Hl.out.2] at e
        exact e
      have htm : tn = m := by rw [H3.out.2.2.2.2, hth, ← Hl.out.1]
      rw [← H3.out.2.2.1] at hMay hnth
      have hcall := may_any l (.slice ta tn tc) (.slice ma mn mc) p.gmod.1 V5 H4.out.2 hMay (HT.out.later H4.out.1)
      have Hnth := Lib.hid (And.intro hnth hMay)
      unfold fltV at hcall
      simp only at hcall
      have Hcall := Lib.hid hcall
      have Hmn := Lib.hid hmn
      subst hmn
      subst htm
      clear hcall hMay hth hlen hnth
      go_upto_region 9 with (fail)
      clear k0 k1 k2
      go_wp2_with fail
      refine Hcall.out.mono ?_
      rintro e w6 ⟨rfl, hb6⟩
      have n0 := (hb6.cell (p := ⟨B, 0, none⟩) (block_lt_of_cell i0)).trans i0
      have n1 := (hb6.cell (p := ⟨B, 1, none⟩) (block_lt_of_cell i1)).trans i1
      have o0 := (hb6.cell (p := ⟨M, 0, none⟩) (block_lt_of_cell j0)).trans j0
      have o1 := (hb6.cell (p := ⟨M, 1, none⟩) (block_lt_of_cell j1)).trans j1
      have H6 := Lib.hid (And.intro (H4.out.1.trans (hb6.mono H4.out.1.size)) (H4.out.2.later hb6))
      clear hb6 i0 i1 j0 j1 l0 l1 l2
      go_wp2_with fail
      go_loopw [96] (fun i wr => ∃ k : Nat, k ≤ mn ∧ i = .int .i64 k ∧ Below w6.heap.size w6 wr) (fun i _ => mn - (intOf i).toNat)
      case atStart => exact ⟨0, Nat.zero_le _, rfl, Below.refl _ _⟩
      case round =>
        obtain ⟨k, hk, rfl, hO⟩ := hrel
        obtain ⟨Wr, hWr⟩ : ∃ Wr : World, Wr = wr := ⟨_, rfl⟩
        subst hWr
        by_cases hkn : k < mn
        · obtain ⟨f, hf⟩ : ∃ f, p.funcs[k]? = some f := ⟨_, List.getElem?_eq_getElem (by rw [← Hl.out.2]; exact hkn)⟩
          obtain ⟨g, hg1, hg2, hg3⟩ := Hnth.out.1 k f hf
          obtain ⟨x, hx, hxg⟩ : ∃ x, l[k]? = some x ∧ x.g = g := by
            rw [List.getElem?_map] at hg1
            cases hx : l[k]? with
            | none => rw [hx] at hg1; cases hg1
            | some x => rw [hx] at hg1; exact ⟨x, rfl, by simpa using hg1⟩
          have hbW := H6.out.1.trans (hO.mono H6.out.1.size)
          have hpg := HP.out.later hbW
          obtain ⟨b5, o5, hfa, hb5, hPf⟩ := hpg.funcs.row.at (i := k) (by rw [← Hl.out.2]; exact hkn)
          subst hfa
          obtain ⟨fc0, fc1, fc2⟩ := hPf f hf
          have hpar := hpg.funcs.params k f hf
          obtain ⟨ap, cp, hvp, hcp1, hcp2⟩ := hpar.form
          obtain ⟨ab, cb, hvb, -⟩ := (hpg.funcs.body k f hf).form
          obtain ⟨np, hnpe⟩ : ∃ np, np = f.params.length := ⟨_, rfl⟩
          obtain ⟨nb, hnbe⟩ : ∃ nb, nb = f.body.length := ⟨_, rfl⟩
          rw [hvp, ← hnpe] at fc1
          rw [hvp] at hpar
          rw [hvb, ← hnbe] at fc2
          rw [← hnpe] at hcp1
          have hgm := H6.out.2.later hO
          obtain ⟨b6, o6, hma, -, y0, y1, y2, y3, y4⟩ := gr_cell hgm.row hx (by rw [← H3.out.2.2.2.1]; exact hkn)
          subst hma
          obtain ⟨hp, hc⟩ := hgm.each x (List.mem_of_getElem? hx)
          obtain ⟨-, pa, pc, hxp, -⟩ := id hp
          obtain ⟨-, ca, cc, hxc, -⟩ := id hc
          have hplen : x.g.params.length = np := by rw [hxg, hg2, List.length_map, ← hnpe]
          rw [hxp, hplen] at y1 hp
          rw [hxc] at y4
          obtain ⟨nc, hnce⟩ : ∃ nc, nc = x.g.code.length := ⟨_, rfl⟩
          rw [← hnce] at y4
          have hname : x.g.name = f.name := by rw [hxg, hg3]
          rw [hname] at y0
          obtain ⟨W7, hW7⟩ : ∃ w : World, w = Wr.alloc (.cells #[.string f.name, .slice ap np cp, .slice ab nb cb] 40) := ⟨_, rfl⟩
          obtain ⟨W8, hW8⟩ : ∃ w : World, w = W7.alloc (.cells #[.string f.name, .slice pa np pc, .int .i64 x.g.regs, .int .i64 x.g.words, .slice ca nc cc] 44) := ⟨_, rfl⟩
          obtain ⟨D, hD⟩ : ∃ D, D = Wr.heap.size := ⟨_, rfl⟩
          obtain ⟨E, hE⟩ : ∃ E, E = W7.heap.size := ⟨_, rfl⟩
          have b7 : Below Wr.heap.size Wr W7 := by rw [hW7]; exact (Below.refl _ _).alloc (Nat.le_refl _) _
          have b8 : Below W7.heap.size W7 W8 := by rw [hW8]; exact (Below.refl _ _).alloc (Nat.le_refl _) _
          have b78 : Below Wr.heap.size Wr W8 := b7.trans (b8.mono b7.size)
          have p0 : W7.cell? ⟨D, 0, none⟩ = some (.string f.name) := by rw [hW7]; exact World.cell?_alloc_at _ _ _ _ hD
          have p1 : W7.cell? ⟨D, 1, none⟩ = some (.slice ap np cp) := by rw [hW7]; exact World.cell?_alloc_at _ _ _ _ hD
          have p0 := (b8.cell (p := ⟨D, 0, none⟩) (block_lt_of_cell p0)).trans p0
          have p1 := (b8.cell (p := ⟨D, 1, none⟩) (block_lt_of_cell p1)).trans p1
          have v0 : W8.cell? ⟨E, 0, none⟩ = some (.string f.name) := by rw [hW8]; exact World.cell?_alloc_at _ _ _ _ hE
          have v1 : W8.cell? ⟨E, 1, none⟩ = some (.slice pa np pc) := by rw [hW8]; exact World.cell?_alloc_at _ _ _ _ hE
          have m0 := (hO.cell (p := ⟨M, 0, none⟩) (block_lt_of_cell o0)).trans o0
          have m1 := (hO.cell (p := ⟨M, 1, none⟩) (block_lt_of_cell o1)).trans o1
          have r1 := (b7.cell (p := ⟨M, 1, none⟩) (block_lt_of_cell m1)).trans m1
          have s0 := (b78.cell (p := ⟨M, 0, none⟩) (block_lt_of_cell m0)).trans m0
          have s1 := (b78.cell (p := ⟨M, 1, none⟩) (block_lt_of_cell m1)).trans m1
          have z0 := (b7.cell (p := ⟨b6, o6 + k * 5, none⟩) (block_lt_of_cell y0)).trans y0
          have z1 := (b7.cell (p := ⟨b6, o6 + k * 5 + 1, none⟩) (block_lt_of_cell y1)).trans y1
          have z2 := (b7.cell (p := ⟨b6, o6 + k * 5 + 2, none⟩) (block_lt_of_cell y2)).trans y2
          have z3 := (b7.cell (p := ⟨b6, o6 + k * 5 + 3, none⟩) (block_lt_of_cell y3)).trans y3
          have z4 := (b7.cell (p := ⟨b6, o6 + k * 5 + 4, none⟩) (block_lt_of_cell y4)).trans y4
          have hfind := findG_any l (.slice (some ⟨b6, o6, none⟩) mn mc) (.slice ta tn tc) p.gmod.1 k x f.name W8 (hgm.later b78) hx hname (fun j y hj hy => by
            rw [← hname]
            exact Hnth.out.2.names j k y.g x.g hj (by simp [hy]) (by simp [hx]))
          have Hfind := Lib.hid hfind
          have HW8 := Lib.hid (And.intro hD (And.intro hW7 (And.intro hE (And.intro hW8 (hO.trans (b78.mono hO.size))))))
          have hpr8 : RowOf W8 (.slice ap f.params.length cp) f.params.length 3 (fun b o k => ∀ y, f.params[k]? = some y → PmAt W8 b o y) := by
            have h9 := (hpg.later b78).funcs.params k f hf
            rw [hvp] at h9
            exact h9
          have hpp8 : PrrIn W8 (.slice pa np pc) x.g.params := by
            have h9 := SliceIn.later hp b78
            exact h9
          have Hpr := Lib.hid (And.intro hpr8 (And.intro hpp8 (And.intro hnpe (show x.g.params = f.params.map fun x => (x.lo, x.hi) by rw [hxg, hg2]))))
          have hn8 : np ≤ 9223372036854775807 := by
            have : maxLen ≤ 9223372036854775807 := by decide
            omega
          clear hf hg1 hg2 hg3 hx hxg hbW hpg hPf hpar hvp hvb hgm hp hc hxp hxc hplen hname b7 b8 b78 hfind hW7 hW8 hD hE hO hpr8 hpp8 hnpe hnbe hnce hcp1 hcp2
          go_upto_region 14 with (fail)
          rw [← HW8.out.1, ← HW8.out.2.1]
          clear fc0 fc1 fc2 m0 m1 y0 y1 y2 y3 y4
          go_upto_region 15 with (fail)
          rw [← HW8.out.2.2.1, ← HW8.out.2.2.2.1]
          clear z0 z1 z2 z3 z4 r1
          go_wp2_with fail
          refine Hfind.out.mono ?_
          rintro e w9 ⟨rfl, hb9⟩
          have t1 := (hb9.cell (p := ⟨D, 1, none⟩) (block_lt_of_cell p1)).trans p1
          have u1 := (hb9.cell (p := ⟨E, 1, none⟩) (block_lt_of_cell v1)).trans v1
          have H9 := Lib.hid (And.intro (HW8.out.2.2.2.2.trans (hb9.mono HW8.out.2.2.2.2.size)) hb9)
          clear hb9 p0 p1 v0 v1 s0 s1
          go_wp2_with fail
          go_loopw [131] (fun i wr => ∃ j : Nat, j ≤ np ∧ i = .int .i64 j ∧ ∃ q, wr = w9.drewN q) (fun i _ => np - (intOf i).toNat)
          case atStart => exact ⟨0, Nat.zero_le _, rfl, 0, rfl⟩
          case round =>
            obtain ⟨j, hj, rfl, q, rfl⟩ := hrel
            by_cases hjn : j < np
            · obtain ⟨y, hy⟩ : ∃ y, f.params[j]? = some y := ⟨_, List.getElem?_eq_getElem (by rw [← Hpr.out.2.2.1]; exact hjn)⟩
              obtain ⟨b7, o7, hpa, hb7, hPm⟩ := Hpr.out.1.at (i := j) (by rw [← Hpr.out.2.2.1]; exact hjn)
              subst hpa
              obtain ⟨-, pm1, pm2⟩ := hPm y hy
              have hxl : j < x.g.params.length := by rw [Hpr.out.2.2.2, List.length_map, ← Hpr.out.2.2.1]; exact hjn
              obtain ⟨b8, o8, hpa, hb8, d1, d2⟩ := PrrIn.cell Hpr.out.2.1 hxl
              subst hpa
              have hyy : x.g.params.getD j (0, 0) = (y.lo, y.hi) := by
                rw [Hpr.out.2.2.2, List.getD_eq_getElem?_getD, List.getElem?_map, hy]; rfl
              rw [hyy] at d1 d2
              have pm1 := (H9.out.2.cell (p := ⟨b7, o7 + j * 3 + 1, none⟩) hb7).trans pm1
              have pm2 := (H9.out.2.cell (p := ⟨b7, o7 + j * 3 + 2, none⟩) hb7).trans pm2
              have d1 := (H9.out.2.cell (p := ⟨b8, o8 + j * 2, none⟩) hb8).trans d1
              have d2 := (H9.out.2.cell (p := ⟨b8, o8 + j * 2 + 1, none⟩) hb8).trans d2
              simp only at d1 d2
              clear hy hPm hyy hxl hb7 hb8
              go_wp2_with (go_quiet (fail))
              go_roundw
              case rel => exact ⟨j + 1, by omega, by go_num, _, rfl⟩
              case measure => simp [intOf]; omega
            · obtain rfl : j = np := by omega
              clear hj hjn
              go_wp2_with fail
              go_roundw
              case rel => exact ⟨k + 1, by omega, by go_num, H9.out.1.trans ((below_draws w9 q).mono H9.out.1.size)⟩
              case measure => simp [intOf]; omega
        · obtain rfl : k = mn := by omega
          have HO := Lib.hid (H6.out.1.trans (hO.mono H6.out.1.size))
          clear hk hkn hO
          go_wp2_with fail
          go_ret
          exact ⟨rfl, HO.out⟩
    · obtain ⟨h1, h2, h3, h4, h5⟩ := gmod_flt (p := p) (by rw [← Hu.out]) (by rw [← Ht.out]; exact hea)
      rw [← Ht.out] at h1 h2 h3 h4
      have hmn : mn = 0 := by rw [H3.out.2.2.2.1, ← List.length_map (f := GR.g), H3.out.2.2.1, h5]; rfl
      have h2 : ec = 0 := h2
      have h3 : 0 ≤ eb := h3
      have h4 : eb < (n : Int) := by rw [Hl.out.2]; exact h4
      have h1 : ea = 95 ∨ ea = 96 ∨ ea = 97 := h1
      subst hmn
      subst h2
      have HO := Lib.hid H4.out.1
      clear h5 hea
      rcases h1 with rfl | rfl | rfl
      · go_wp2_with fail
        go_ret
        exact ⟨rfl, HO.out⟩
      · go_wp2_with fail
        go_ret
        exact ⟨rfl, HO.out⟩
      · go_wp2_with fail
        go_ret
        exact ⟨rfl, HO.out⟩
  · have h1 := gmod_badM (p := p) (by rw [← Hu.out]; exact hr0)
    have hx : (ea, eb, ec) = (ra, rb, rc) := by rw [Ht.out, h1, Hu.out]
    have hmn : mn = 0 := by rw [H3.out.2.2.2.1, ← List.length_map (f := GR.g), H3.out.2.2.1, h1]; rfl
    cases hx
    subst hmn
    clear h1
    go_wp2_with fail
    go_ret
    exact ⟨rfl, H4.out.1⟩
end Go.Proofs.YtgobcldecokppaaDoor

namespace Go.Proofs.YtgobcldecokppaaDoor
open Go.Joins Go.ChangeShapes Go.WideShapes Go.ChangeAt Go.RowKit Go.Deep

set_option maxRecDepth 100000 in
theorem genMay_lifted (os : Os) (started : os.Started) (H : Type) (enc : TypeId × Value → H) :
    ReturnsInHanded {} Tryd.checked os 3 .any (fun w args => (Rows.genMaySpec.pre enc Tryd.prog Tryd.f3 Rows.genMayRow.domain false w args ∧ laidMetH Tryd.prog laid2 w) ∧ sizedMet enc Tryd.prog Tryd.f3 (OpenSpec.ofChange Rows.genMaySpec) false w args) (Rows.genMaySpec.post enc Tryd.prog Tryd.f3 false true false false) :=
  lift_r_laid started (by kernel_rfl) Tryd.func3 rfl rfl rfl (fun _ => rfl)
    (ChangeSpec.witness_shaped (enc := enc) (C := Tryd.checked) (os := os) (X := fun w _ => laidMetH Tryd.prog laid2 w) false (World.doorLaid Tryd.prog 34 os) #[.agg #[.slice none 0 0, .slice none 0 0]] 8 rfl (World.shaped_of_RefB (by kernel_rfl) (by kernel_rfl)) (by kernel_rfl) (by kernel_rfl) (by kernel_rfl) (door_met os _))
    (fun W p vw vf vp vb h hn hr hT => gnLawMay_any W p vw vf vp vb h hn hr hT)

theorem genMay_said : Rows.GenMaySaid :=
  OpenClaim.holds_of_wide 3 Tryd.f3 rfl rfl rfl rfl rfl rfl rfl ⟨rfl, rfl, rfl, rfl, rfl⟩ rfl rfl rfl rfl rfl (by kernel_rfl) Tryd.func3 (by kernel_rfl)
    (of_decide_eq_true (by kernel_rfl)) (by unfold Func.isWrapper; first | (rw [if_pos (by decide +kernel)]; kernel_rfl) | (rw [if_neg (by decide +kernel)]; exact ⟨rfl, rfl⟩))
    (fun os started H enc _ => genMay_lifted os started H enc)

theorem genMay_holds : Rows.GenMayCardSaid :=
  Claim7.holds_tied_plain_at .later [] [.data] true Rows.genMayCard.stood.harness false
    genMay_said (fun _ h => by cases h) (by kernel_rfl) (fun _ h => by cases h) genMay_row_tie rfl ⟨rfl, rfl⟩ (by kernel_rfl) rfl
    (fun f fn hf hfn => by
      obtain rfl : f = 3 := Option.some.inj ((show Tryd.prog.funcNamed "soffit/soffitlaw22.GenMay" = some 3 by kernel_rfl).symm.trans hf) |>.symm
      obtain rfl : fn = Tryd.f3 := (Option.some.inj (Tryd.func3.symm.trans hfn)).symm
      exact ⟨by kernel_rfl, fun j t ht => by
        have hm : t ∈ Tryd.f3.params.toList := by
          rw [← Array.getElem?_toList] at ht
          exact List.mem_of_getElem? ht
        have hall : (Tryd.f3.params.toList.all fun u => !Tryd.prog.wantsStandIn u) = true := by kernel_rfl
        exact (show Tryd.prog.wantsStandIn t = false by simpa using List.all_eq_true.1 hall t hm)⟩)
    (by kernel_rfl)
end Go.Proofs.YtgobcldecokppaaDoor
