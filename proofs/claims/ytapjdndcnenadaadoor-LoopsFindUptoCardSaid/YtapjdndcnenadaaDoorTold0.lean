/- What told asks of edges: the plain side. -/
import Derived.Test.YtapjdndcnenadaaDoorBlocks0
import Derived.Test.YtapjdndcnenadaaDoorREdges
namespace Go.Proofs.YtapjdndcnenadaaDoor
open Go.RowKit Go.Shelf
attribute [local go_sem] Oper.semAt_some wide_fn

/-- The cells that told writes: its answer and its count. -/
def toldM (S : Nat) (W : World) (k : Nat) : Prop := k < W.heap.size ∧ (k = S + 3 ∨ k = S + 4)
theorem toldM_fit (S Bf B : Nat) (h1 : Bf = S + 5) (h2 : S + 6 ≤ B) : MFit (toldM S) S Bf B := by
  refine ⟨fun W k h => ⟨by rcases h with ⟨_, h⟩; omega, by rcases h with ⟨_, h⟩; omega⟩, fun W W' hB _ k h => ⟨by rcases h with ⟨_, h⟩; omega, h.2⟩, fun W l o o' _ h ho k hk => ⟨by have := hk.1; simpa [World.putObj] using this, hk.2⟩⟩

structure TI (w W : World) (vw : Value) (k : Int) (code : List Ins) (l : List Edge) : Prop where
  pre : l <+: edgesL code
  want : W.cell? ⟨w.heap.size + 1, 0, none⟩ = some vw
  stop : W.cell? ⟨w.heap.size + 2, 0, none⟩ = some (.int .i64 k)
  res : W.cell? ⟨w.heap.size + 3, 0, none⟩ = some (.bool false)
  fres : W.frozen? ⟨w.heap.size + 3, 0, none⟩ = false
  at' : W.cell? ⟨w.heap.size + 4, 0, none⟩ = some (.int .i64 (l.length : Int))
  fat : W.frozen? ⟨w.heap.size + 4, 0, none⟩ = false
  below : Below w.heap.size w W
  size : w.heap.size + 6 ≤ W.heap.size

theorem TI.turn {w W W' : World} {row : Option Nat} {vw : Value} {k : Int} {code : List Ins} {l : List Edge} (h : TI w W vw k code l) (hg : W.grownBy W' row) (hr : ∀ r, row = some r → w.heap.size + 6 ≤ r ∧ ∃ o : Obj, W.heap[r]? = some o ∧ o.isCells = false) : TI w W' vw k code l :=
  have hr' : ∀ r, row = some r → ∃ o : Obj, W.heap[r]? = some o ∧ o.isCells = false := fun r e => (hr r e).2
  ⟨h.pre, cell_kept h.want hg hr', cell_kept h.stop hg hr', cell_kept h.res hg hr', (frozen_kept h.res hg hr').trans h.fres, cell_kept h.at' hg hr', (frozen_kept h.at' hg hr').trans h.fat, h.below.grown hg (by have := h.size; omega) (fun k e => by have := (hr k e).1; omega), Nat.le_trans h.size hg.size⟩

/-- Behind an answer within the loop. -/
structure TX (w W : World) (code : List Ins) (l : List Edge) : Prop where
  good : l <+: edgesL code → W.cell? ⟨w.heap.size + 3, 0, none⟩ = some (.bool true)
  res : ∃ b, W.cell? ⟨w.heap.size + 3, 0, none⟩ = some (.bool b)
  below : Below w.heap.size w W
  size : w.heap.size + 6 ≤ W.heap.size
theorem TX.turn {w W W' : World} {row : Option Nat} {code : List Ins} {l : List Edge} (h : TX w W code l) (hg : W.grownBy W' row) (hr : ∀ r, row = some r → w.heap.size + 6 ≤ r ∧ ∃ o : Obj, W.heap[r]? = some o ∧ o.isCells = false) : TX w W' code l :=
  have hr' : ∀ r, row = some r → ∃ o : Obj, W.heap[r]? = some o ∧ o.isCells = false := fun r e => (hr r e).2
  ⟨fun hp => cell_kept (h.good hp) hg hr', by obtain ⟨b, hb⟩ := h.res; exact ⟨b, cell_kept hb hg hr'⟩, h.below.grown hg (by have := h.size; omega) (fun k e => by have := (hr k e).1; omega), Nat.le_trans h.size hg.size⟩

theorem results_cell1 {fn : Func} {p : Tmp} {ty : TypeId} (h : fn.results = #[.cell p ty]) (tmps : Array Value) (P : Program) (w : World) :
    (results fn tmps).run P w = ((asAddr (tmps.getD p undef)).run P w).andThen fun a w1 => (loadVar ty a).run P w1 := by
  simp only [results, h]
  simp [Sem.run_bind, Result.andThen]

theorem pre_next {l L : List Edge} {d : Edge} (h : l <+: L) (hl : l.length < L.length) (x : Edge) : l ++ [x] <+: L ↔ x = L.getD l.length d := by
  obtain ⟨t, rfl⟩ := h
  cases t with
  | nil => simp at hl
  | cons y t =>
    rw [List.prefix_append_right_inj, List.getD_eq_getElem?_getD, List.getElem?_append_right (Nat.le_refl _)]
    constructor
    · rintro ⟨t', h⟩
      simp at h
      simp [h.1]
    · intro h
      simp at h
      subst h
      exact ⟨t, rfl⟩

theorem edgesL_le (code : List Ins) : (edgesL code).length ≤ 2048 := by
  have h1 := edgesTo_len code (reachL code (-1)) (reachL code (-1)).length
  have h2 : (reachL code (-1)).length ≤ 1024 := by
    rw [reachL_length]; split
    · rename_i h; simp [hasB] at h; exact h.2
    · omega
  unfold edgesL
  omega

end Go.Proofs.YtapjdndcnenadaaDoor
