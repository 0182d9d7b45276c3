/- code.Same: of whole modules. -/
import Derived.Test.YtgobcldecokppaaGnMod
import Derived.BigQuiet
/- code.Same: two modules that hold the same. -/
namespace Go.Proofs.Ytgobcldecokppaa
open Go.RowKit Go.Maps

theorem prr_get (l : List Prr) (k : Nat) : (prrVs l)[k * 2]? = (l[k]?).map (fun e => .int .i64 e.1) ∧ (prrVs l)[k * 2 + 1]? = (l[k]?).map (fun e => .int .i64 e.2) := by
  induction l generalizing k with
  | nil => simp [prrVs]
  | cons x l ih =>
    have e : prrVs (x :: l) = [.int .i64 x.1, .int .i64 x.2] ++ prrVs l := by simp [prrVs]
    rw [e]
    cases k with
    | zero => simp
    | succ k =>
      have := ih k
      rw [show (k + 1) * 2 = k * 2 + 2 by omega, show k * 2 + 2 + 1 = (k * 2 + 1) + 2 by omega]
      simpa using this
def PrrIn (w : World) (v : Value) (l : List Prr) : Prop := SliceIn w v l.length 2 (prrVs l)
theorem PrrIn.cell {w : World} {a : Option Addr} {n cap : Nat} {l : List Prr} (h : PrrIn w (.slice a n cap) l) {k : Nat} (hk : k < l.length) :
    ∃ b off, a = some ⟨b, off, none⟩ ∧ b < w.heap.size ∧ w.cell? ⟨b, off + k * 2, none⟩ = some (.int .i64 (l.getD k (0, 0)).1) ∧ w.cell? ⟨b, off + k * 2 + 1, none⟩ = some (.int .i64 (l.getD k (0, 0)).2) := by
  obtain ⟨_, a', cap', hv, _, _, _, hc⟩ := h
  cases hv
  obtain ⟨b, off, rfl, hb, hc⟩ := hc (by omega)
  obtain ⟨e1, e2⟩ := prr_get l k
  refine ⟨b, off, rfl, hb, ?_, ?_⟩
  · refine hc _ _ ?_
    rw [e1]; simp [List.getD, hk]
  · rw [Nat.add_assoc]
    refine hc _ _ ?_
    rw [e2]; simp [List.getD, hk]
theorem CodeIn.cellg {w : World} {a : Option Addr} {n cap : Nat} {l : List Ins} (h : CodeIn w (.slice a n cap) l) {k : Nat} (hk : k < l.length) :
    ∃ b off, a = some ⟨b, off, none⟩ ∧ b < w.heap.size ∧ w.cell? ⟨b, off + k * 5, none⟩ = some (.int .i64 l[k].op) ∧ w.cell? ⟨b, off + k * 5 + 1, none⟩ = some (.int .i64 l[k].a) ∧ w.cell? ⟨b, off + k * 5 + 2, none⟩ = some (.int .i64 l[k].b) ∧
    w.cell? ⟨b, off + k * 5 + 3, none⟩ = some (.int .i64 l[k].c) ∧ w.cell? ⟨b, off + k * 5 + 4, none⟩ = some (.int .i64 l[k].n) := by
  have h0 := h
  obtain ⟨_, a', cap', hv, _, _, _, hc⟩ := h0
  cases hv
  obtain ⟨b, off, rfl, hb, hc⟩ := hc (by omega)
  exact ⟨b, off, rfl, hb, CodeIn.at h rfl (List.getElem?_eq_getElem hk)⟩
theorem IntsIn.cellg {w : World} {a : Option Addr} {n cap : Nat} {l : List Int} (h : IntsIn w (.slice a n cap) l) {k : Nat} (hk : k < l.length) :
    ∃ b off, a = some ⟨b, off, none⟩ ∧ b < w.heap.size ∧ w.cell? ⟨b, off + k, none⟩ = some (.int .i64 (l.getD k 0)) := by
  obtain ⟨_, a', cap', hv, _, _, _, hc⟩ := h
  cases hv
  obtain ⟨b, off, rfl, hb, hc⟩ := hc (by omega)
  exact ⟨b, off, rfl, hb, hc k _ (by simp [intVs, List.getD, List.getElem?_eq_getElem hk])⟩
theorem neq_prr (w : World) (a b : Int) : (Go.binOp .neq 59 (.agg #[.int .i64 a, .int .i64 b]) (.agg #[.int .i64 a, .int .i64 b])).run Try.prog w = .ok (.bool false) w := by
  simp [go_sem, Try.underlying59, Try.underlying2]
theorem neq_insg (w : World) (a b c d e : Int) : (Go.binOp .neq 44 (.agg #[.int .i64 a, .int .i64 b, .int .i64 c, .int .i64 d, .int .i64 e]) (.agg #[.int .i64 a, .int .i64 b, .int .i64 c, .int .i64 d, .int .i64 e])).run Try.prog w = .ok (.bool false) w := by
  simp [go_sem, Try.underlying44, Try.underlying2, Try.underlying3]

set_option maxRecDepth 100000 in
set_option maxHeartbeats 1000000 in
theorem eq64_true (v v' : Value) (l : List Int) (w : World) (h : IntsIn w v l) (h' : IntsIn w v' l) : Calls Try.prog 20 #[v, v'] w (Reads (.bool true) w) := by
  have hx := h; have hx' := h'
  obtain ⟨-, a1, c1, rfl, hl1, hm1, -⟩ := hx
  obtain ⟨-, a2, c2, rfl, -⟩ := hx'
  obtain ⟨n, hn⟩ : ∃ n, n = l.length := ⟨_, rfl⟩
  have hn62 : n ≤ 9223372036854775807 := by have : maxLen ≤ 9223372036854775807 := by decide
                                            omega
  rw [← hn] at h h' ⊢
  have H := Lib.hid (And.intro h (And.intro h' hn))
  clear h h' hn hl1 hm1
  go_enter Try.func20, Try.ntmps20
  go_wp2_with fail
  go_loopw [13] (fun i wr => ∃ k : Nat, k ≤ n ∧ i = .int .i64 k ∧ ∃ q, wr = w.drewN q) (fun i _ => n - (intOf i).toNat)
  case atStart => exact ⟨0, Nat.zero_le _, rfl, 0, rfl⟩
  case round =>
    obtain ⟨k, hk, rfl, q, rfl⟩ := hrel
    by_cases hkn : k < n
    · obtain ⟨b3, o3, rfl, -, d1⟩ := IntsIn.cellg H.out.1 (k := k) (by rw [← H.out.2.2]; exact hkn)
      obtain ⟨b4, o4, rfl, -, e1⟩ := IntsIn.cellg H.out.2.1 (k := k) (by rw [← H.out.2.2]; exact hkn)
      generalize l.getD k 0 = y at d1 e1
      go_wp2_with (go_quiet (fail))
      go_roundw
      case rel => exact ⟨k + 1, by omega, by go_num, _, rfl⟩
      case measure => simp [intOf]; omega
    · obtain rfl : k = n := by omega
      clear hk hkn
      go_wp2_with fail
      go_ret
      exact ⟨rfl, _, rfl⟩
set_option maxRecDepth 100000 in
set_option maxHeartbeats 1000000 in
theorem eqPrr_true (v v' : Value) (l : List Prr) (w : World) (h : PrrIn w v l) (h' : PrrIn w v' l) : Calls Try.prog 23 #[v, v'] w (Reads (.bool true) w) := by
  have hx := h; have hx' := h'
  obtain ⟨-, a1, c1, rfl, hl1, hm1, -⟩ := hx
  obtain ⟨-, a2, c2, rfl, -⟩ := hx'
  obtain ⟨n, hn⟩ : ∃ n, n = l.length := ⟨_, rfl⟩
  have hn62 : n ≤ 9223372036854775807 := by have : maxLen ≤ 9223372036854775807 := by decide
                                            omega
  rw [← hn] at h h' ⊢
  have H := Lib.hid (And.intro h (And.intro h' hn))
  have hns := neq_prr
  clear h h' hn hl1 hm1
  go_enter Try.func23, Try.ntmps23
  go_wp2_with fail
  go_loopw [13] (fun i wr => ∃ k : Nat, k ≤ n ∧ i = .int .i64 k ∧ ∃ q, wr = w.drewN q) (fun i _ => n - (intOf i).toNat)
  case atStart => exact ⟨0, Nat.zero_le _, rfl, 0, rfl⟩
  case round =>
    obtain ⟨k, hk, rfl, q, rfl⟩ := hrel
    by_cases hkn : k < n
    · obtain ⟨b3, o3, rfl, -, d1, d2⟩ := PrrIn.cell H.out.1 (k := k) (by rw [← H.out.2.2]; exact hkn)
      obtain ⟨b4, o4, rfl, -, e1, e2⟩ := PrrIn.cell H.out.2.1 (k := k) (by rw [← H.out.2.2]; exact hkn)
      generalize (l.getD k (0, 0)).1 = y1 at d1 e1
      generalize (l.getD k (0, 0)).2 = y2 at d2 e2
      go_wp2_with (go_quiet (fail))
      go_roundw
      case rel => exact ⟨k + 1, by omega, by go_num, _, rfl⟩
      case measure => simp [intOf]; omega
    · obtain rfl : k = n := by omega
      clear hk hkn
      go_wp2_with fail
      go_ret
      exact ⟨rfl, _, rfl⟩
set_option maxRecDepth 100000 in
set_option maxHeartbeats 1000000 in
theorem eqIns_true (v v' : Value) (l : List Ins) (w : World) (h : CodeIn w v l) (h' : CodeIn w v' l) : Calls Try.prog 24 #[v, v'] w (Reads (.bool true) w) := by
  have hx := h; have hx' := h'
  obtain ⟨-, a1, c1, rfl, hl1, hm1, -⟩ := hx
  obtain ⟨-, a2, c2, rfl, -⟩ := hx'
  obtain ⟨n, hn⟩ : ∃ n, n = l.length := ⟨_, rfl⟩
  have hn62 : n ≤ 9223372036854775807 := by have : maxLen ≤ 9223372036854775807 := by decide
                                            omega
  rw [← hn] at h h' ⊢
  have H := Lib.hid (And.intro h (And.intro h' hn))
  have hni := neq_insg
  clear h h' hn hl1 hm1
  go_enter Try.func24, Try.ntmps24
  go_wp2_with fail
  go_loopw [13] (fun i wr => ∃ k : Nat, k ≤ n ∧ i = .int .i64 k ∧ ∃ q, wr = w.drewN q) (fun i _ => n - (intOf i).toNat)
  case atStart => exact ⟨0, Nat.zero_le _, rfl, 0, rfl⟩
  case round =>
    obtain ⟨k, hk, rfl, q, rfl⟩ := hrel
    by_cases hkn : k < n
    · obtain ⟨b3, o3, rfl, -, d1, d2, d3, d4, d5⟩ := CodeIn.cellg H.out.1 (k := k) (by rw [← H.out.2.2]; exact hkn)
      obtain ⟨b4, o4, rfl, -, e1, e2, e3, e4, e5⟩ := CodeIn.cellg H.out.2.1 (k := k) (by rw [← H.out.2.2]; exact hkn)
      have hkl : k < l.length := by rw [← H.out.2.2]; exact hkn
      generalize l[k] = y at d1 d2 d3 d4 d5 e1 e2 e3 e4 e5
      clear hkl
      obtain ⟨y1, y2, y3, y4, y5⟩ := y
      simp only at d1 d2 d3 d4 d5 e1 e2 e3 e4 e5
      go_wp2_with (go_quiet (fail))
      go_roundw
      case rel => exact ⟨k + 1, by omega, by go_num, _, rfl⟩
      case measure => simp [intOf]; omega
    · obtain rfl : k = n := by omega
      clear hk hkn
      go_wp2_with fail
      go_ret
      exact ⟨rfl, _, rfl⟩
set_option maxRecDepth 100000 in
set_option maxHeartbeats 1000000 in
theorem same1_true (s : ByteArray) (r wd : Int) (pl : List Prr) (cl : List Ins) (vp vp' vc vc' : Value) (w : World) (hp : PrrIn w vp pl) (hp' : PrrIn w vp' pl) (hc : CodeIn w vc cl) (hc' : CodeIn w vc' cl) :
    Calls Try.prog 22 #[.agg #[.string s, vp, .int .i64 r, .int .i64 wd, vc], .agg #[.string s, vp', .int .i64 r, .int .i64 wd, vc']] w (Gives (.bool true) w) := by
  obtain ⟨W0, hW0⟩ : ∃ W0 : World, W0 = w.alloc (.cells #[.string s, vp, .int .i64 r, .int .i64 wd, vc] 42) := ⟨_, rfl⟩
  obtain ⟨W1, hW1⟩ : ∃ W1 : World, W1 = W0.alloc (.cells #[.string s, vp', .int .i64 r, .int .i64 wd, vc'] 42) := ⟨_, rfl⟩
  obtain ⟨B, hB⟩ : ∃ B, B = w.heap.size := ⟨_, rfl⟩
  have z0 : W0.heap.size = B + 1 := by rw [hW0, hB]; simp
  have hb0 : Below w.heap.size w W0 := by rw [hW0]; exact (Below.refl _ _).alloc (Nat.le_refl _) _
  have hb1 : Below W0.heap.size W0 W1 := by rw [hW1]; exact (Below.refl _ _).alloc (Nat.le_refl _) _
  have hb : Below w.heap.size w W1 := hb0.trans (hb1.mono hb0.size)
  have g : ∀ j u, (#[.string s, vp, .int .i64 r, .int .i64 wd, vc] : Array Value)[j]? = some u → W1.cell? ⟨B, j, none⟩ = some u := fun j u hu => by
    have h0 : W0.cell? ⟨B, j, none⟩ = some u := by rw [hW0]; exact (World.cell?_alloc_at _ _ _ _ hB).trans hu
    exact (hb1.cell (p := ⟨B, j, none⟩) (by show B < _; omega)).trans h0
  have g' : ∀ j u, (#[.string s, vp', .int .i64 r, .int .i64 wd, vc'] : Array Value)[j]? = some u → W1.cell? ⟨B + 1, j, none⟩ = some u := fun j u hu => by
    rw [hW1]; exact (World.cell?_alloc_at _ _ _ _ z0.symm).trans hu
  have c0 := g 0 _ rfl
  have c1 := g 1 _ rfl
  have c2 := g 2 _ rfl
  have c3 := g 3 _ rfl
  have c4 := g 4 _ rfl
  have d0 := g' 0 _ rfl
  have d1 := g' 1 _ rfl
  have d2 := g' 2 _ rfl
  have d3 := g' 3 _ rfl
  have d4 := g' 4 _ rfl
  have HP : Hid (PrrIn W1 vp pl) := SliceIn.later hp hb
  have HP' : Hid (PrrIn W1 vp' pl) := SliceIn.later hp' hb
  have HC : Hid (CodeIn W1 vc cl) := SliceIn.later hc hb
  have HC' : Hid (CodeIn W1 vc' cl) := SliceIn.later hc' hb
  have HW := Lib.hid (And.intro hB (And.intro hW0 (And.intro hW1 hb)))
  clear g g' hp hp' hc hc' hb hb0 hb1 hB hW0 hW1 z0
  go_enter Try.func22, Try.ntmps22
  go_upto_region 1 with (fail)
  rw [← HW.out.1, ← HW.out.2.1, ← HW.out.2.2.1]
  go_wp2_with fail
  refine (eqPrr_true _ _ pl W1 HP.out HP'.out).mono ?_
  rintro e w2 ⟨rfl, q, rfl⟩
  have HC2 : Hid (CodeIn (W1.drewN q) vc cl) := SliceIn.later HC.out (below_draws _ _)
  have HC2' : Hid (CodeIn (W1.drewN q) vc' cl) := SliceIn.later HC'.out (below_draws _ _)
  go_wp2_with fail
  refine (eqIns_true _ _ cl _ HC2.out HC2'.out).mono ?_
  rintro e w2 ⟨rfl, q2, rfl⟩
  go_wp2_with fail
  go_ret
  exact ⟨rfl, HW.out.2.2.2.trans ((below_draws W1 (q + q2)).mono HW.out.2.2.2.size)⟩
end Go.Proofs.Ytgobcldecokppaa

namespace Go.Proofs.Ytgobcldecokppaa
open Go.RowKit Go.Maps

/-- A module that reads in w. -/
structure GmIn (w : World) (vt vm : Value) (ts : List Int) (l : List GR) : Prop where
  thr : IntsIn w vt ts
  row : SliceIn w vm l.length 5 (l.flatMap GR.cells)
  each : ∀ x ∈ l, PrrIn w x.vp x.g.params ∧ CodeIn w x.vc x.g.code
theorem GmIn.later {w w' : World} {vt vm : Value} {ts : List Int} {l : List GR} (h : GmIn w vt vm ts l) (hb : Below w.heap.size w w') : GmIn w' vt vm ts l :=
  ⟨SliceIn.later h.thr hb, SliceIn.later h.row hb, fun x hx => ⟨SliceIn.later (h.each x hx).1 hb, SliceIn.later (h.each x hx).2 hb⟩⟩
theorem GmAt.reads {w : World} {C : Nat} {vt vm : Value} {ts : List Int} {l : List GR} (h : GmAt w C vt vm ts l) : GmIn w vt vm ts l :=
  ⟨SliceIn.of_owns h.thr, SliceIn.of_owns h.row, fun x hx => ⟨SliceIn.of_owns (h.each x hx).1.params, SliceIn.of_owns (h.each x hx).1.code⟩⟩
theorem gr_cells (l : List GR) (k j : Nat) (hj : j < 5) : (l.flatMap GR.cells)[k * 5 + j]? = (l[k]?).bind fun x => x.cells[j]? := by
  induction l generalizing k with
  | nil => simp
  | cons x l ih =>
    cases k with
    | zero =>
      simp only [List.flatMap_cons, Nat.zero_mul, Nat.zero_add, List.getElem?_cons_zero, Option.bind_some]
      exact List.getElem?_append_left (by simpa [GR.cells] using hj)
    | succ k =>
      have := ih k
      simp only [List.flatMap_cons, List.getElem?_cons_succ]
      rw [List.getElem?_append_right (by simp [GR.cells]; omega), show (k + 1) * 5 + j - x.cells.length = k * 5 + j by simp [GR.cells]; omega, this]
theorem gr_len (l : List GR) : (l.flatMap GR.cells).length = l.length * 5 := by
  induction l with
  | nil => rfl
  | cons x l ih => simp only [List.flatMap_cons, List.length_append, ih, List.length_cons]; simp [GR.cells]; omega
theorem GmIn.take {w : World} {vt : Value} {a : Option Addr} {m c : Nat} {ts : List Int} {l : List GR} (h : GmIn w vt (.slice a m c) ts l) {n : Nat} (hn : n ≤ l.length) : GmIn w (.slice none 0 0) (.slice a n c) [] (l.take n) := by
  refine ⟨⟨rfl, none, 0, rfl, Nat.le_refl _, Nat.zero_le _, fun _ => rfl, fun h => absurd h (Nat.lt_irrefl _)⟩, ?_, fun x hx => h.each x (List.mem_of_mem_take hx)⟩
  have hl : (l.take n).length = n := by simp; omega
  obtain ⟨h1, a', c', hv, h2, h3, h4, h5⟩ := h.row
  cases hv
  rw [hl]
  refine ⟨by rw [gr_len, hl], a, c, rfl, by omega, h3, h4, fun h0 => ?_⟩
  obtain ⟨b, off, e, hb, hc⟩ := h5 (by omega)
  refine ⟨b, off, e, hb, fun j u hu => hc j u ?_⟩
  have e2 : l.flatMap GR.cells = (l.take n).flatMap GR.cells ++ (l.drop n).flatMap GR.cells := by rw [← List.flatMap_append, List.take_append_drop]
  rw [e2]
  have hj : j < ((l.take n).flatMap GR.cells).length := (List.getElem?_eq_some_iff.1 hu).1
  rw [List.getElem?_append_left hj]
  exact hu
theorem gr_cell {w : World} {a : Option Addr} {n cap : Nat} {l : List GR} {m : Nat} (h : SliceIn w (.slice a n cap) m 5 (l.flatMap GR.cells)) {k : Nat} {x : GR} (hx : l[k]? = some x) (hk : k < m) :
    ∃ b off, a = some ⟨b, off, none⟩ ∧ b < w.heap.size ∧ w.cell? ⟨b, off + k * 5, none⟩ = some (.string x.g.name) ∧ w.cell? ⟨b, off + k * 5 + 1, none⟩ = some x.vp ∧ w.cell? ⟨b, off + k * 5 + 2, none⟩ = some (.int .i64 x.g.regs) ∧
      w.cell? ⟨b, off + k * 5 + 3, none⟩ = some (.int .i64 x.g.words) ∧ w.cell? ⟨b, off + k * 5 + 4, none⟩ = some x.vc := by
  obtain ⟨_, a', cap', hv, _, _, _, hc⟩ := h
  cases hv
  obtain ⟨b, off, rfl, hb, hc⟩ := hc (by omega)
  have g : ∀ j u, j < 5 → x.cells[j]? = some u → w.cell? ⟨b, off + k * 5 + j, none⟩ = some u := fun j u hj hu => by
    rw [Nat.add_assoc]; exact hc _ _ (by rw [gr_cells l k j hj, hx]; exact hu)
  exact ⟨b, off, rfl, hb, g 0 _ (by omega) rfl, g 1 _ (by omega) rfl, g 2 _ (by omega) rfl, g 3 _ (by omega) rfl, g 4 _ (by omega) rfl⟩
set_option maxRecDepth 100000 in
set_option maxHeartbeats 2000000 in
theorem eqFunc_true (l l' : List GR) (vm vm' vt vt' : Value) (ts ts' : List Int) (w : World) (h : GmIn w vt vm ts l) (h' : GmIn w vt' vm' ts' l') (he : l.map GR.g = l'.map GR.g) :
    Calls Try.prog 21 #[vm, vm', .func (.func 22) #[] #[]] w (Gives (.bool true) w) := by
  have hx := h.row; have hx' := h'.row
  obtain ⟨-, a1, c1, rfl, hl1, hm1, -⟩ := hx
  obtain ⟨-, a2, c2, rfl, -⟩ := hx'
  obtain ⟨n, hn⟩ : ∃ n, n = l.length := ⟨_, rfl⟩
  have hn62 : n ≤ 9223372036854775807 := by have : maxLen ≤ 9223372036854775807 := by decide
                                            omega
  have hl' : l'.length = l.length := by simpa using (congrArg List.length he).symm
  rw [hl'] at h' ⊢
  rw [← hn] at h h' ⊢
  have H := Lib.hid (And.intro h (And.intro h' (And.intro hn (And.intro hl' he))))
  clear h h' hn hl1 hm1 hl' he
  go_enter Try.func21, Try.ntmps21
  go_wp2_with fail
  go_loopw [17] (fun i wr => ∃ k : Nat, k ≤ n ∧ i = .int .i64 k ∧ Below w.heap.size w wr) (fun i _ => n - (intOf i).toNat)
  case atStart => exact ⟨0, Nat.zero_le _, rfl, Below.refl _ _⟩
  case round =>
    obtain ⟨k, hk, rfl, hO⟩ := hrel
    by_cases hkn : k < n
    · obtain ⟨Wr, hWr⟩ : ∃ Wr : World, Wr = wr := ⟨_, rfl⟩
      subst hWr
      obtain ⟨x, hx⟩ : ∃ x, l[k]? = some x := ⟨_, List.getElem?_eq_getElem (by rw [← H.out.2.2.1]; exact hkn)⟩
      obtain ⟨y, hy⟩ : ∃ y, l'[k]? = some y := ⟨_, List.getElem?_eq_getElem (by rw [H.out.2.2.2.1, ← H.out.2.2.1]; exact hkn)⟩
      have hg : x.g = y.g := by
        have e1 : (l.map GR.g)[k]? = some x.g := by simp [hx]
        have e2 : (l'.map GR.g)[k]? = some y.g := by simp [hy]
        rw [H.out.2.2.2.2, e2] at e1
        exact (Option.some.inj e1).symm
      have h1 := H.out.1.later hO
      have h2 := H.out.2.1.later hO
      obtain ⟨b3, o3, rfl, -, d0, d1, d2, d3, d4⟩ := gr_cell h1.row hx (by rw [← H.out.2.2.1]; exact hkn)
      obtain ⟨b4, o4, rfl, -, e0, e1, e2, e3, e4⟩ := gr_cell h2.row hy (by rw [H.out.2.2.2.1, ← H.out.2.2.1]; exact hkn)
      obtain ⟨hp, hc⟩ := h1.each x (List.mem_of_getElem? hx)
      obtain ⟨hp', hc'⟩ := h2.each y (List.mem_of_getElem? hy)
      clear h1 h2 hx hy
      obtain ⟨⟨s, pl, r, wd, cl⟩, xp, xc, xl, xh⟩ := x
      obtain ⟨yg, yp, yc, yl, yh⟩ := y
      simp only at hg
      subst hg
      simp only at d0 d1 d2 d3 d4 e0 e1 e2 e3 e4 hp hc hp' hc'
      obtain ⟨-, pa, pc, rfl, -⟩ := id hp
      obtain ⟨-, pa', pc', rfl, -⟩ := id hp'
      obtain ⟨-, ca, cc, rfl, -⟩ := id hc
      obtain ⟨-, ca', cc', rfl, -⟩ := id hc'
      obtain ⟨np, hnp⟩ : ∃ np, np = pl.length := ⟨_, rfl⟩
      obtain ⟨nc, hnc⟩ : ∃ nc, nc = cl.length := ⟨_, rfl⟩
      rw [← hnp] at hp hp' d1 e1
      rw [← hnc] at hc hc' d4 e4
      obtain ⟨W2, hW2⟩ : ∃ W2 : World, W2 = Wr.alloc (.cells #[.string s, .slice pa np pc, .int .i64 r, .int .i64 wd, .slice ca nc cc] 42) := ⟨_, rfl⟩
      obtain ⟨W3, hW3⟩ : ∃ W3 : World, W3 = W2.alloc (.cells #[.string s, .slice pa' np pc', .int .i64 r, .int .i64 wd, .slice ca' nc cc'] 42) := ⟨_, rfl⟩
      obtain ⟨D, hD⟩ : ∃ D, D = Wr.heap.size := ⟨_, rfl⟩
      obtain ⟨E, hE⟩ : ∃ E, E = W2.heap.size := ⟨_, rfl⟩
      have hb2 : Below Wr.heap.size Wr W2 := by rw [hW2]; exact (Below.refl _ _).alloc (Nat.le_refl _) _
      have hb3 : Below W2.heap.size W2 W3 := by rw [hW3]; exact (Below.refl _ _).alloc (Nat.le_refl _) _
      have hb23 : Below Wr.heap.size Wr W3 := hb2.trans (hb3.mono hb2.size)
      have qD : D < W2.heap.size := by rw [hW2, hD]; simp
      have g : ∀ j u, (#[.string s, .slice pa np pc, .int .i64 r, .int .i64 wd, .slice ca nc cc] : Array Value)[j]? = some u → W3.cell? ⟨D, j, none⟩ = some u := fun j u hu => by
        have h0 : W2.cell? ⟨D, j, none⟩ = some u := by rw [hW2]; exact (World.cell?_alloc_at _ _ _ _ hD).trans hu
        exact (hb3.cell (p := ⟨D, j, none⟩) qD).trans h0
      have g' : ∀ j u, (#[.string s, .slice pa' np pc', .int .i64 r, .int .i64 wd, .slice ca' nc cc'] : Array Value)[j]? = some u → W3.cell? ⟨E, j, none⟩ = some u := fun j u hu => by
        rw [hW3]; exact (World.cell?_alloc_at _ _ _ _ hE).trans hu
      have u0 := g 0 _ rfl
      have u1 := g 1 _ rfl
      have u2 := g 2 _ rfl
      have u3 := g 3 _ rfl
      have u4 := g 4 _ rfl
      have v0 := g' 0 _ rfl
      have v1 := g' 1 _ rfl
      have v2 := g' 2 _ rfl
      have v3 := g' 3 _ rfl
      have v4 := g' 4 _ rfl
      have k0 : W2.cell? ⟨b4, o4 + k * 5, none⟩ = some (.string s) := (hb2.cell (p := ⟨b4, o4 + k * 5, none⟩) (block_lt_of_cell e0)).trans e0
      have k1 : W2.cell? ⟨b4, o4 + k * 5 + 1, none⟩ = _ := (hb2.cell (p := ⟨b4, o4 + k * 5 + 1, none⟩) (block_lt_of_cell e1)).trans e1
      have k2 : W2.cell? ⟨b4, o4 + k * 5 + 2, none⟩ = _ := (hb2.cell (p := ⟨b4, o4 + k * 5 + 2, none⟩) (block_lt_of_cell e2)).trans e2
      have k3 : W2.cell? ⟨b4, o4 + k * 5 + 3, none⟩ = _ := (hb2.cell (p := ⟨b4, o4 + k * 5 + 3, none⟩) (block_lt_of_cell e3)).trans e3
      have k4 : W2.cell? ⟨b4, o4 + k * 5 + 4, none⟩ = _ := (hb2.cell (p := ⟨b4, o4 + k * 5 + 4, none⟩) (block_lt_of_cell e4)).trans e4
      have Hcall := Lib.hid (same1_true s r wd pl cl _ _ _ _ W3 (SliceIn.later hp hb23) (SliceIn.later hp' hb23) (SliceIn.later hc hb23) (SliceIn.later hc' hb23))
      have HW := Lib.hid (And.intro hD (And.intro hW2 (And.intro hE (And.intro hW3 (hO.trans (hb23.mono hO.size))))))
      clear g g' hb2 hb3 hb23 qD hD hW2 hE hW3 hO hp hp' hc hc' e0 e1 e2 e3 e4 hnp hnc
      go_upto_region 6 with (fail)
      rw [← HW.out.1, ← HW.out.2.1]
      clear d0 d1 d2 d3 d4
      go_upto_region 7 with (fail)
      rw [← HW.out.2.2.1, ← HW.out.2.2.2.1]
      clear k0 k1 k2 k3 k4
      go_wp2_with fail
      refine Hcall.out.mono ?_
      rintro e w4 ⟨rfl, hb4⟩
      have H4 := Lib.hid (HW.out.2.2.2.2.trans (hb4.mono HW.out.2.2.2.2.size))
      clear hb4
      go_wp2_with fail
      go_roundw
      case rel => exact ⟨k + 1, by omega, by go_num, H4.out⟩
      case measure => simp [intOf]; omega
    · obtain rfl : k = n := by omega
      have HO := Lib.hid hO
      clear hk hkn hO
      go_wp2_with fail
      go_ret
      exact ⟨rfl, HO.out⟩
set_option maxRecDepth 100000 in
set_option maxHeartbeats 1000000 in
theorem csame_true (l l' : List GR) (vm vm' vt vt' : Value) (ts : List Int) (w : World) (h : GmIn w vt vm ts l) (h' : GmIn w vt' vm' ts l') (he : l.map GR.g = l'.map GR.g) :
    Calls Try.prog 9 #[.agg #[vt, vm], .agg #[vt', vm']] w (Gives (.bool true) w) := by
  obtain ⟨W0, hW0⟩ : ∃ W0 : World, W0 = w.alloc (.cells #[vt, vm] 29) := ⟨_, rfl⟩
  obtain ⟨W1, hW1⟩ : ∃ W1 : World, W1 = W0.alloc (.cells #[vt', vm'] 29) := ⟨_, rfl⟩
  obtain ⟨B, hB⟩ : ∃ B, B = w.heap.size := ⟨_, rfl⟩
  have z0 : W0.heap.size = B + 1 := by rw [hW0, hB]; simp
  have hb0 : Below w.heap.size w W0 := by rw [hW0]; exact (Below.refl _ _).alloc (Nat.le_refl _) _
  have hb1 : Below W0.heap.size W0 W1 := by rw [hW1]; exact (Below.refl _ _).alloc (Nat.le_refl _) _
  have hb : Below w.heap.size w W1 := hb0.trans (hb1.mono hb0.size)
  have g : ∀ j u, (#[vt, vm] : Array Value)[j]? = some u → W1.cell? ⟨B, j, none⟩ = some u := fun j u hu => by
    have h0 : W0.cell? ⟨B, j, none⟩ = some u := by rw [hW0]; exact (World.cell?_alloc_at _ _ _ _ hB).trans hu
    exact (hb1.cell (p := ⟨B, j, none⟩) (by show B < _; omega)).trans h0
  have g' : ∀ j u, (#[vt', vm'] : Array Value)[j]? = some u → W1.cell? ⟨B + 1, j, none⟩ = some u := fun j u hu => by
    rw [hW1]; exact (World.cell?_alloc_at _ _ _ _ z0.symm).trans hu
  have c0 := g 0 _ rfl
  have c1 := g 1 _ rfl
  have d0 := g' 0 _ rfl
  have d1 := g' 1 _ rfl
  have HM := Lib.hid (And.intro (h.later hb) (h'.later hb))
  have HW := Lib.hid (And.intro hB (And.intro hW0 (And.intro hW1 hb)))
  have He := Lib.hid he
  clear g g' h h' hb hb0 hb1 hB hW0 hW1 z0 he
  go_enter Try.func9, Try.ntmps9
  go_upto_region 1 with (fail)
  rw [← HW.out.1, ← HW.out.2.1, ← HW.out.2.2.1]
  go_wp2_with fail
  refine (eq64_true _ _ ts W1 HM.out.1.thr HM.out.2.thr).mono ?_
  rintro e w2 ⟨rfl, q, rfl⟩
  have HM2 := Lib.hid (And.intro (HM.out.1.later (below_draws _ q)) (HM.out.2.later (below_draws _ q)))
  go_wp2_with fail
  refine (eqFunc_true l l' _ _ _ _ ts ts _ HM2.out.1 HM2.out.2 He.out).mono ?_
  rintro e w2 ⟨rfl, hb2⟩
  have H2 := Lib.hid (HW.out.2.2.2.trans (((below_draws W1 q).trans hb2).mono HW.out.2.2.2.size))
  clear hb2
  go_wp2_with fail
  go_ret
  exact ⟨rfl, H2.out⟩
end Go.Proofs.Ytgobcldecokppaa
