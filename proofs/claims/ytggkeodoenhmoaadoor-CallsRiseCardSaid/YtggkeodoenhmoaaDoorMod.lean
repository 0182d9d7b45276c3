/- A module's functions as a list, and lists of pairs of ints. -/
import Derived.Test.YtggkeodoenhmoaaDoorSameFn
import Derived.Test.YtggkeodoenhmoaaDoorWord
namespace Go.Proofs.YtggkeodoenhmoaaDoor
open Go.RowKit

/-- A function of a module, as it lies in memory, and what its lists hold. -/
structure FR where
  s : ByteArray
  vp : Value
  regs : Int
  words : Int
  vc : Value
  params : List Span
  code : List Ins
def FR.cells (x : FR) : List Value := [.string x.s, x.vp, .int .i64 x.regs, .int .i64 x.words, x.vc]
abbrev FR.val (x : FR) : Value := fnV x.s x.vp x.regs x.words x.vc
structure FR.OK (w : World) (x : FR) : Prop where
  hcode : CodeIn w x.vc x.code
  hparams : SpansIn w x.vp x.params
  nCode : x.code.length * 40 ≤ 140737488351232
  nParams : x.params.length * 16 ≤ 140737488351232
/-- The slice value v reads in w as the functions l. -/
structure FuncsIn (w : World) (v : Value) (l : List FR) : Prop where
  row : SliceIn w v l.length 5 (l.flatMap FR.cells)
  each : ∀ x ∈ l, x.OK w
  nFuncs : l.length * 80 ≤ 140737488351232
theorem FR.OK.later {w w' : World} {x : FR} (h : x.OK w) (hb : Below w.heap.size w w') : x.OK w' := ⟨SliceIn.later h.hcode hb, SliceIn.later h.hparams hb, h.nCode, h.nParams⟩
theorem FuncsIn.later {w w' : World} {v : Value} {l : List FR} (h : FuncsIn w v l) (hb : Below w.heap.size w w') : FuncsIn w' v l := ⟨SliceIn.later h.row hb, fun x hx => (h.each x hx).later hb, h.nFuncs⟩

theorem flat_fwd {α β : Type} (f : α → List β) (k : Nat) (hk : ∀ x, (f x).length = k) (l : List α) : ∀ (i j : Nat) (x : α) (u : β), j < k → l[i]? = some x → (f x)[j]? = some u → (l.flatMap f)[i * k + j]? = some u := by
  induction l with
  | nil => intro i j x u _ h; simp at h
  | cons y l ih =>
    intro i j x u hj hx hu
    rw [List.flatMap_cons]
    cases i with
    | zero =>
      have e : y = x := by simpa using hx
      rw [e, Nat.zero_mul, Nat.zero_add, List.getElem?_append_left (by rw [hk]; exact hj)]; exact hu
    | succ i =>
      have e : (i + 1) * k + j = k + (i * k + j) := by rw [Nat.add_mul]; omega
      rw [e, List.getElem?_append_right (by rw [hk]; omega), hk, Nat.add_sub_cancel_left]
      exact ih i j x u hj (by simpa using hx) hu
theorem FuncsIn.at {w : World} {a : Option Addr} {n cap : Nat} {l : List FR} (h : FuncsIn w (.slice a n cap) l) {k : Nat} {x : FR} (hx : l[k]? = some x) :
    n = l.length ∧ ∃ b off, a = some ⟨b, off, none⟩ ∧ b < w.heap.size ∧ w.cell? ⟨b, off + k * 5, none⟩ = some (.string x.s) ∧ w.cell? ⟨b, off + k * 5 + 1, none⟩ = some x.vp ∧ w.cell? ⟨b, off + k * 5 + 2, none⟩ = some (.int .i64 x.regs) ∧
      w.cell? ⟨b, off + k * 5 + 3, none⟩ = some (.int .i64 x.words) ∧ w.cell? ⟨b, off + k * 5 + 4, none⟩ = some x.vc := by
  have hk : k < l.length := (List.getElem?_eq_some_iff.1 hx).1
  obtain ⟨_, a', cap', hv, _, _, _, hc⟩ := h.row
  cases hv
  obtain ⟨b, off, rfl, hb, hc⟩ := hc (by omega)
  have g : ∀ j u, j < 5 → x.cells[j]? = some u → w.cell? ⟨b, off + k * 5 + j, none⟩ = some u := fun j u hj hu => by
    rw [Nat.add_assoc]; exact hc _ _ (flat_fwd FR.cells 5 (fun _ => rfl) l k j x u hj hx hu)
  exact ⟨rfl, b, off, rfl, hb, g 0 _ (by omega) rfl, g 1 _ (by omega) rfl, g 2 _ (by omega) rfl, g 3 _ (by omega) rfl, g 4 _ (by omega) rfl⟩

/-- A module in its box. -/
structure ModAt (w : World) (k : Nat) (vt vf : Value) : Prop where
  c0 : w.cell? ⟨k, 0, none⟩ = some vt
  c1 : w.cell? ⟨k, 1, none⟩ = some vf
theorem ModAt.box (w : World) (vt vf : Value) (t : TypeId) : ModAt (w.alloc (.cells #[vt, vf] t)) w.heap.size vt vf := by
  constructor <;> (rw [World.cell?_alloc_at _ _ _ _ rfl]; rfl)
theorem ModAt.later {w w' : World} {k B : Nat} {vt vf : Value} (h : ModAt w k vt vf) (hb : Below B w w') (hk : k < B) : ModAt w' k vt vf := ⟨(hb.cell hk).trans h.c0, (hb.cell hk).trans h.c1⟩

theorem WordsIn.later {w w' : World} (h : WordsIn w) (hb : Below w.heap.size w w') (hg : 0 < w.heap.size) : WordsIn w' := fun i hi => by
  obtain ⟨s, h1, h2⟩ := h i hi
  exact ⟨s, (hb.cell hg).trans h1, h2⟩
theorem cell_lt {w : World} {p : Addr} {u : Value} (h : w.cell? p = some u) : p.block < w.heap.size := by
  unfold World.cell? at h
  by_cases hp : p.block < w.heap.size
  · exact hp
  · rw [Array.getElem?_eq_none (by omega)] at h; simp at h
theorem WordsIn.lt {w : World} (h : WordsIn w) : 0 < w.heap.size := by
  obtain ⟨s, h1, _⟩ := h 0 (by omega)
  exact cell_lt h1
theorem WordsIn.next {w w' : World} (h : WordsIn w) (hb : Below w.heap.size w w') : WordsIn w' := h.later hb h.lt

abbrev Pr := Int × Int
def prVs (l : List Pr) : List Value := l.flatMap fun e => [.int .i64 e.1, .int .i64 e.2]
def OwnPr (t : TypeId) (w : World) (B : Nat) (v : Value) (l : List Pr) : Prop := w.ownsRow B t 2 v l.length (prVs l)
theorem Tryd.infoPair : (Tryd.prog.info? 50).map (fun i => (i.zero, i.size, i.bytes)) = some (some (.agg #[.int .i64 0, .int .i64 0]), 2, 16) := by kernel_rfl
theorem Tryd.infoCall : (Tryd.prog.info? 57).map (fun i => (i.zero, i.size, i.bytes)) = some (some (.agg #[.int .i64 0, .int .i64 0]), 2, 16) := by kernel_rfl
theorem OwnPr.cell {t : TypeId} {w : World} {B g cap n : Nat} {l : List Pr} (h : OwnPr t w B (.slice (some ⟨g, 0, none⟩) n cap) l) {k : Nat} {x : Pr} (hx : l[k]? = some x) :
    n = l.length ∧ w.cell? ⟨g, k * 2, none⟩ = some (.int .i64 x.1) ∧ w.cell? ⟨g, k * 2 + 1, none⟩ = some (.int .i64 x.2) := by
  have hn : n = l.length := by rcases h.2 with ⟨h, _⟩ | ⟨_, _, _, h, _⟩ <;> cases h; rfl
  subst hn
  have hk : k < l.length := (List.getElem?_eq_some_iff.1 hx).1
  have f : ∀ j u, j < 2 → ([.int .i64 x.1, .int .i64 x.2] : List Value)[j]? = some u → (prVs l)[k * 2 + j]? = some u := fun j u hj hu => flat_fwd (fun e : Pr => [Value.int .i64 e.1, Value.int .i64 e.2]) 2 (fun _ => rfl) l k j x u hj hx hu
  exact ⟨rfl, (World.ownsRow.cellAt h (k * 2) (by omega)).trans (f 0 _ (by omega) rfl), (World.ownsRow.cellAt h (k * 2 + 1) (by omega)).trans (f 1 _ (by omega) rfl)⟩
theorem append_pr {ops : Array Oper} {rest : List Oper} {o : Oper} {a : Act} {Q : Exit → Act → World → Prop} {w : World} (t ts : TypeId) (hgd : o.guard = none) (s x : Operand)
    (ho : o.op = .call { callee := .builtin .append, args := #[s, x], argTypes := #[ts, ts] }) (ht : Tryd.prog.underlying ts = some (.slice t)) (hi : (Tryd.prog.info? t).map (fun i => (i.zero, i.size, i.bytes)) = some (some (.agg #[.int .i64 0, .int .i64 0]), 2, 16))
    (B : Nat) (v : Value) (l : List Pr) (hs : a.eval s = v) (hown : OwnPr t w B v l) (p q : Int) (hx : a.eval x = .slice (some ⟨w.heap.size, 0, none⟩) 1 1)
    (hl : l.length ≤ 1000000000000) (hB : B ≤ w.heap.size)
    (h : ∀ v' w', OwnPr t w' B v' (l ++ [(p, q)]) → (w.alloc (.cells #[.int .i64 p, .int .i64 q] t)).grownBy w' v.ownBlock → Fresh (w.alloc (.cells #[.int .i64 p, .int .i64 q] t)) v v' → (∀ C w0, Below C w0 w → C ≤ B → Below C w0 w') → wpList Tryd.prog ops Q rest (a.put o.dst v') w') :
    wpList Tryd.prog ops Q (o :: rest) a (w.alloc (.cells #[.int .i64 p, .int .i64 q] t)) := by
  refine append_gen hgd s x ts ho ht hi rfl (by decide) B v l.length (prVs l) hs (World.ownsRow.alloc hown _) _ 1 [.int .i64 p, .int .i64 q] hx (sliceIn_new w [.int .i64 p, .int .i64 q] 1 2 t rfl (by decide)) ?_ ?_ ?_ ?_ ?_
  · intro u hu; simp at hu; rcases hu with rfl | rfl <;> rfl
  · unfold maxLen; omega
  · omega
  · simp; omega
  · intro v' w' h1 h2 h3 h4
    exact h v' w' (by unfold OwnPr prVs at *; simpa using h1) h2 h3 fun C w0 hb hC => h4 C w0 (hb.alloc (by omega) _) hC

/-- The same, the new block's number spelt otherwise. -/
theorem append_pr_at {ops : Array Oper} {rest : List Oper} {o : Oper} {a : Act} {Q : Exit → Act → World → Prop} {w : World} (t ts : TypeId) (hgd : o.guard = none) (s x : Operand)
    (ho : o.op = .call { callee := .builtin .append, args := #[s, x], argTypes := #[ts, ts] }) (ht : Tryd.prog.underlying ts = some (.slice t)) (hi : (Tryd.prog.info? t).map (fun i => (i.zero, i.size, i.bytes)) = some (some (.agg #[.int .i64 0, .int .i64 0]), 2, 16))
    (B : Nat) (v : Value) (l : List Pr) (hs : a.eval s = v) (hown : OwnPr t w B v l) (p q : Int) (g : Nat) (hx : a.eval x = .slice (some ⟨g, 0, none⟩) 1 1) (hg : w.heap.size = g)
    (hl : l.length ≤ 1000000000000) (hB : B ≤ w.heap.size)
    (h : ∀ v' w', OwnPr t w' B v' (l ++ [(p, q)]) → (w.alloc (.cells #[.int .i64 p, .int .i64 q] t)).grownBy w' v.ownBlock → Fresh (w.alloc (.cells #[.int .i64 p, .int .i64 q] t)) v v' → (∀ C w0, Below C w0 w → C ≤ B → Below C w0 w') → wpList Tryd.prog ops Q rest (a.put o.dst v') w') :
    wpList Tryd.prog ops Q (o :: rest) a (w.alloc (.cells #[.int .i64 p, .int .i64 q] t)) :=
  append_pr t ts hgd s x ho ht hi B v l hs hown p q (by rw [hx, hg]) hl hB h

/-- The calls of a function that can be reached, among the first k instructions. -/
def isCall (x : Ins) (n : Nat) : Bool := decide (x.op = 19 ∧ 0 ≤ x.n ∧ x.n < n)
def callsTo (code : List Ins) (can : List Bool) (n : Nat) : Nat → List Pr
  | 0 => []
  | k + 1 => callsTo code can n k ++ if can.getD k false = true ∧ isCall (code.getD k default) n = true then [((k : Int), (code.getD k default).n)] else []
theorem callsTo_len (code : List Ins) (can : List Bool) (n k : Nat) : (callsTo code can n k).length ≤ k := by
  induction k with
  | zero => simp [callsTo]
  | succ k ih =>
    rw [callsTo, List.length_append]
    split <;> simp <;> omega
/-- .. all of them. -/
noncomputable def callsL (code : List Ins) (n : Nat) : List Pr := callsTo code (reachL code (-1)) n (reachL code (-1)).length
theorem callsTo_no {code : List Ins} {can : List Bool} {n k : Nat} (h : ¬ (can.getD k false = true ∧ isCall (code.getD k default) n = true)) : callsTo code can n (k + 1) = callsTo code can n k := by
  rw [callsTo, if_neg h, List.append_nil]
theorem callsTo_yes {code : List Ins} {can : List Bool} {n k : Nat} (h : can.getD k false = true) (h2 : isCall (code.getD k default) n = true) : callsTo code can n (k + 1) = callsTo code can n k ++ [((k : Int), (code.getD k default).n)] := by
  rw [callsTo, if_pos ⟨h, h2⟩]
end Go.Proofs.YtggkeodoenhmoaaDoor
