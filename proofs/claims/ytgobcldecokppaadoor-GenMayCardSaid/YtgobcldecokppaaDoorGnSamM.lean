/- code.Same: of whole modules. -/
import Derived.Test.YtgobcldecokppaaDoorGnMod
import Derived.BigQuiet
/- code.Same: two modules that hold the same. -/
namespace Go.Proofs.YtgobcldecokppaaDoor
open Go.RowKit Go.Maps

theorem prr_get (l : List Prr) (k : Nat) : (prrVs l)[k * 2]? = (l[k]?).map (fun e => .int .i64 e.1) ∧ (prrVs l)[k * 2 + 1]? = (l[k]?).map (fun e => .int .i64 e.2) := by
  induction l generalizing k with
  | nil => simp [prrVs]
  | cons x l ih =>
    have e : prrVs (x :: l) = [.int .i64 x.1, .int .i64 x.2] ++ prrVs l := by simp [prrVs]
    rw [e]
    cases k with
    | zero => simp
    | succ k =>
      have := ih k
      rw [show (k + 1) * 2 = k * 2 + 2 by omega, show k * 2 + 2 + 1 = (k * 2 + 1) + 2 by omega]
      simpa using this
def PrrIn (w : World) (v : Value) (l : List Prr) : Prop := SliceIn w v l.length 2 (prrVs l)
theorem PrrIn.cell {w : World} {a : Option Addr} {n cap : Nat} {l : List Prr} (h : PrrIn w (.slice a n cap) l) {k : Nat} (hk : k < l.length) :
    ∃ b off, a = some ⟨b, off, none⟩ ∧ b < w.heap.size ∧ w.cell? ⟨b, off + k * 2, none⟩ = some (.int .i64 (l.getD k (0, 0)).1) ∧ w.cell? ⟨b, off + k * 2 + 1, none⟩ = some (.int .i64 (l.getD k (0, 0)).2) := by
  obtain ⟨_, a', cap', hv, _, _, _, hc⟩ := h
  cases hv
  obtain ⟨b, off, rfl, hb, hc⟩ := hc (by omega)
  obtain ⟨e1, e2⟩ := prr_get l k
  refine ⟨b, off, rfl, hb, ?_, ?_⟩
  · refine hc _ _ ?_
    rw [e1]; simp [List.getD, hk]
  · rw [Nat.add_assoc]
    refine hc _ _ ?_
    rw [e2]; simp [List.getD, hk]
theorem CodeIn.cellg {w : World} {a : Option Addr} {n cap : Nat} {l : List Ins} (h : CodeIn w (.slice a n cap) l) {k : Nat} (hk : k < l.length) :
    ∃ b off, a = some ⟨b, off, none⟩ ∧ b < w.heap.size ∧ w.cell? ⟨b, off + k * 5, none⟩ = some (.int .i64 l[k].op) ∧ w.cell? ⟨b, off + k * 5 + 1, none⟩ = some (.int .i64 l[k].a) ∧ w.cell? ⟨b, off + k * 5 + 2, none⟩ = some (.int .i64 l[k].b) ∧
    w.cell? ⟨b, off + k * 5 + 3, none⟩ = some (.int .i64 l[k].c) ∧ w.cell? ⟨b, off + k * 5 + 4, none⟩ = some (.int .i64 l[k].n) := by
  have h0 := h
  obtain ⟨_, a', cap', hv, _, _, _, hc⟩ := h0
  cases hv
  obtain ⟨b, off, rfl, hb, hc⟩ := hc (by omega)
  exact ⟨b, off, rfl, hb, CodeIn.at h rfl (List.getElem?_eq_getElem hk)⟩
theorem IntsIn.cellg {w : World} {a : Option Addr} {n cap : Nat} {l : List Int} (h : IntsIn w (.slice a n cap) l) {k : Nat} (hk : k < l.length) :
    ∃ b off, a = some ⟨b, off, none⟩ ∧ b < w.heap.size ∧ w.cell? ⟨b, off + k, none⟩ = some (.int .i64 (l.getD k 0)) := by
  obtain ⟨_, a', cap', hv, _, _, _, hc⟩ := h
  cases hv
  obtain ⟨b, off, rfl, hb, hc⟩ := hc (by omega)
  exact ⟨b, off, rfl, hb, hc k _ (by simp [intVs, List.getD, List.getElem?_eq_getElem hk])⟩
theorem neq_prr (w : World) (a b : Int) : (Go.binOp .neq 47 (.agg #[.int .i64 a, .int .i64 b]) (.agg #[.int .i64 a, .int .i64 b])).run Tryd.prog w = .ok (.bool false) w := by
  simp [go_sem, Tryd.underlying47, Tryd.underlying2]
theorem neq_insg (w : World) (a b c d e : Int) : (Go.binOp .neq 58 (.agg #[.int .i64 a, .int .i64 b, .int .i64 c, .int .i64 d, .int .i64 e]) (.agg #[.int .i64 a, .int .i64 b, .int .i64 c, .int .i64 d, .int .i64 e])).run Tryd.prog w = .ok (.bool false) w := by
  simp [go_sem, Tryd.underlying58, Tryd.underlying2, Tryd.underlying3]

end Go.Proofs.YtgobcldecokppaaDoor

namespace Go.Proofs.YtgobcldecokppaaDoor
open Go.RowKit Go.Maps

/-- A module that reads in w. -/
structure GmIn (w : World) (vt vm : Value) (ts : List Int) (l : List GR) : Prop where
  thr : IntsIn w vt ts
  row : SliceIn w vm l.length 5 (l.flatMap GR.cells)
  each : ∀ x ∈ l, PrrIn w x.vp x.g.params ∧ CodeIn w x.vc x.g.code
theorem GmIn.later {w w' : World} {vt vm : Value} {ts : List Int} {l : List GR} (h : GmIn w vt vm ts l) (hb : Below w.heap.size w w') : GmIn w' vt vm ts l :=
  ⟨SliceIn.later h.thr hb, SliceIn.later h.row hb, fun x hx => ⟨SliceIn.later (h.each x hx).1 hb, SliceIn.later (h.each x hx).2 hb⟩⟩
theorem GmAt.reads {w : World} {C : Nat} {vt vm : Value} {ts : List Int} {l : List GR} (h : GmAt w C vt vm ts l) : GmIn w vt vm ts l :=
  ⟨SliceIn.of_owns h.thr, SliceIn.of_owns h.row, fun x hx => ⟨SliceIn.of_owns (h.each x hx).1.params, SliceIn.of_owns (h.each x hx).1.code⟩⟩
theorem gr_cells (l : List GR) (k j : Nat) (hj : j < 5) : (l.flatMap GR.cells)[k * 5 + j]? = (l[k]?).bind fun x => x.cells[j]? := by
  induction l generalizing k with
  | nil => simp
  | cons x l ih =>
    cases k with
    | zero =>
      simp only [List.flatMap_cons, Nat.zero_mul, Nat.zero_add, List.getElem?_cons_zero, Option.bind_some]
      exact List.getElem?_append_left (by simpa [GR.cells] using hj)
    | succ k =>
      have := ih k
      simp only [List.flatMap_cons, List.getElem?_cons_succ]
      rw [List.getElem?_append_right (by simp [GR.cells]; omega), show (k + 1) * 5 + j - x.cells.length = k * 5 + j by simp [GR.cells]; omega, this]
theorem gr_len (l : List GR) : (l.flatMap GR.cells).length = l.length * 5 := by
  induction l with
  | nil => rfl
  | cons x l ih => simp only [List.flatMap_cons, List.length_append, ih, List.length_cons]; simp [GR.cells]; omega
theorem GmIn.take {w : World} {vt : Value} {a : Option Addr} {m c : Nat} {ts : List Int} {l : List GR} (h : GmIn w vt (.slice a m c) ts l) {n : Nat} (hn : n ≤ l.length) : GmIn w (.slice none 0 0) (.slice a n c) [] (l.take n) := by
  refine ⟨⟨rfl, none, 0, rfl, Nat.le_refl _, Nat.zero_le _, fun _ => rfl, fun h => absurd h (Nat.lt_irrefl _)⟩, ?_, fun x hx => h.each x (List.mem_of_mem_take hx)⟩
  have hl : (l.take n).length = n := by simp; omega
  obtain ⟨h1, a', c', hv, h2, h3, h4, h5⟩ := h.row
  cases hv
  rw [hl]
  refine ⟨by rw [gr_len, hl], a, c, rfl, by omega, h3, h4, fun h0 => ?_⟩
  obtain ⟨b, off, e, hb, hc⟩ := h5 (by omega)
  refine ⟨b, off, e, hb, fun j u hu => hc j u ?_⟩
  have e2 : l.flatMap GR.cells = (l.take n).flatMap GR.cells ++ (l.drop n).flatMap GR.cells := by rw [← List.flatMap_append, List.take_append_drop]
  rw [e2]
  have hj : j < ((l.take n).flatMap GR.cells).length := (List.getElem?_eq_some_iff.1 hu).1
  rw [List.getElem?_append_left hj]
  exact hu
theorem gr_cell {w : World} {a : Option Addr} {n cap : Nat} {l : List GR} {m : Nat} (h : SliceIn w (.slice a n cap) m 5 (l.flatMap GR.cells)) {k : Nat} {x : GR} (hx : l[k]? = some x) (hk : k < m) :
    ∃ b off, a = some ⟨b, off, none⟩ ∧ b < w.heap.size ∧ w.cell? ⟨b, off + k * 5, none⟩ = some (.string x.g.name) ∧ w.cell? ⟨b, off + k * 5 + 1, none⟩ = some x.vp ∧ w.cell? ⟨b, off + k * 5 + 2, none⟩ = some (.int .i64 x.g.regs) ∧
      w.cell? ⟨b, off + k * 5 + 3, none⟩ = some (.int .i64 x.g.words) ∧ w.cell? ⟨b, off + k * 5 + 4, none⟩ = some x.vc := by
  obtain ⟨_, a', cap', hv, _, _, _, hc⟩ := h
  cases hv
  obtain ⟨b, off, rfl, hb, hc⟩ := hc (by omega)
  have g : ∀ j u, j < 5 → x.cells[j]? = some u → w.cell? ⟨b, off + k * 5 + j, none⟩ = some u := fun j u hj hu => by
    rw [Nat.add_assoc]; exact hc _ _ (by rw [gr_cells l k j hj, hx]; exact hu)
  exact ⟨b, off, rfl, hb, g 0 _ (by omega) rfl, g 1 _ (by omega) rfl, g 2 _ (by omega) rfl, g 3 _ (by omega) rfl, g 4 _ (by omega) rfl⟩
end Go.Proofs.YtgobcldecokppaaDoor
