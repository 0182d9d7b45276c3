/- Layer 15: the sample of the calls whose answers the document fixes, laid in whatever order. -/
import Derived.Test.YtggkeodoenhmoaaDoorSmp
import Derived.Test.YtggkeodoenhmoaaDoorSame15
import Derived.Test.YtggkeodoenhmoaaDoorRegInv
import Derived.Deep.RegionHeld3
namespace Go.Proofs.YtggkeodoenhmoaaDoor
open Go.RowKit

abbrev insV (x : Ins) : Value := .agg #[.int .i64 x.op, .int .i64 x.a, .int .i64 x.b, .int .i64 x.c, .int .i64 x.n]
set_option maxHeartbeats 1000000 in
theorem func0_at (n : Int) (w : World) : Calls Tryd.prog 19 #[.int .i64 n] w fun e w' => e = .returned (insV ⟨19, 0, 0, 0, n⟩) ∧ w' = w.alloc (.cells #[.int .i64 19, .int .i64 0, .int .i64 0, .int .i64 0, .int .i64 n] 44) := by
  go_enter Tryd.func19, Tryd.ntmps19
  go_wp2_with fail
  exact bodyPost_ret (v := insV ⟨19, 0, 0, 0, n⟩) (by simp [results, Tryd.results19, go_sem]) rfl ⟨rfl, rfl⟩
set_option maxHeartbeats 1000000 in
theorem func0_any (n : Int) (w : World) : Calls Tryd.prog 19 #[.int .i64 n] w fun e w' => e = .returned (insV ⟨19, 0, 0, 0, n⟩) ∧ Below w.heap.size w w' := by
  go_enter Tryd.func19, Tryd.ntmps19
  go_wp2_with fail
  refine bodyPost_ret (v := insV ⟨19, 0, 0, 0, n⟩) (by simp [results, Tryd.results19, go_sem]) rfl ⟨rfl, ?_⟩
  exact (Below.refl _ _).alloc (Nat.le_refl _) _

/-- A block of code. -/
def Cd (B : Nat) (w : World) (g : Nat) (cs : List Ins) : Prop := B ≤ g ∧ w.heap[g]? = some (.cells (cs.flatMap Ins.cells).toArray 44 (0, 0))
def SL (B : Nat) (w : World) (v : Value) (n : Nat) (cs : List Ins) : Prop := ∃ g, v = .slice (some ⟨g, 0, none⟩) n n ∧ Cd B w g cs
def FN (B : Nat) (w : World) (v : Value) (n : Nat) (cs : List Ins) : Prop := ∃ g, v = fnV ⟨#[]⟩ (.slice none 0 0) 0 0 (.slice (some ⟨g, 0, none⟩) n n) ∧ Cd B w g cs
abbrev smp (g0 g1 g2 g3 : Nat) : List FR := smpK k2 1 g0 g1 g2 g3
/-- The functions, and their code. -/
structure Fs (B : Nat) (w : World) (g g0 g1 g2 g3 : Nat) : Prop where
  lo : B ≤ g
  fs : w.heap[g]? = some (.cells ((smp g0 g1 g2 g3).flatMap FR.cells).toArray 42 (0, 0))
  c0 : Cd B w g0 k0
  c1 : Cd B w g1 k1
  c2 : Cd B w g2 k2
  c3 : Cd B w g3 k3
def FS (B : Nat) (w : World) (v : Value) : Prop := ∃ g g0 g1 g2 g3, v = .slice (some ⟨g, 0, none⟩) 4 4 ∧ Fs B w g g0 g1 g2 g3
def MS (B : Nat) (w : World) (v : Value) : Prop := ∃ g g0 g1 g2 g3, v = modV (.slice none 0 0) (.slice (some ⟨g, 0, none⟩) 4 4) ∧ Fs B w g g0 g1 g2 g3
def Mb (B : Nat) (w : World) (m : Nat) : Prop := B ≤ m ∧ w.heap[m]? = some (.cells #[.slice none 0 0, .slice none 0 0] 25 (0, 0))
def MB (B : Nat) (w : World) (v : Value) : Prop := ∃ m, v = .pointer (some ⟨m, 0, none⟩) ∧ Mb B w m
def MD (B : Nat) (w : World) (v : Value) : Prop := ∃ m g g0 g1 g2 g3, v = .pointer (some ⟨m, 0, none⟩) ∧ B ≤ m ∧ w.heap[m]? = some (.cells #[.slice none 0 0, .slice (some ⟨g, 0, none⟩) 4 4] 25 (0, 0)) ∧ Fs B w g g0 g1 g2 g3
theorem Cd.later {B g : Nat} {w w' : World} {cs : List Ins} (h : Cd B w g cs) (hb : Below w.heap.size w w') : Cd B w' g cs := ⟨h.1, (hb.block g (Array.getElem?_eq_some_iff.1 h.2).1).trans h.2⟩
theorem SL.later {B n : Nat} {w w' : World} {v : Value} {cs : List Ins} (h : SL B w v n cs) (hb : Below w.heap.size w w') : SL B w' v n cs := by obtain ⟨g, h1, h2⟩ := h; exact ⟨g, h1, h2.later hb⟩
theorem FN.later {B n : Nat} {w w' : World} {v : Value} {cs : List Ins} (h : FN B w v n cs) (hb : Below w.heap.size w w') : FN B w' v n cs := by obtain ⟨g, h1, h2⟩ := h; exact ⟨g, h1, h2.later hb⟩
theorem Fs.later {B g g0 g1 g2 g3 : Nat} {w w' : World} (h : Fs B w g g0 g1 g2 g3) (hb : Below w.heap.size w w') : Fs B w' g g0 g1 g2 g3 := ⟨h.lo, (hb.block g (Array.getElem?_eq_some_iff.1 h.fs).1).trans h.fs, h.c0.later hb, h.c1.later hb, h.c2.later hb, h.c3.later hb⟩
theorem FS.later {B : Nat} {w w' : World} {v : Value} (h : FS B w v) (hb : Below w.heap.size w w') : FS B w' v := by obtain ⟨g, g0, g1, g2, g3, h1, h2⟩ := h; exact ⟨g, g0, g1, g2, g3, h1, h2.later hb⟩
theorem MS.later {B : Nat} {w w' : World} {v : Value} (h : MS B w v) (hb : Below w.heap.size w w') : MS B w' v := by obtain ⟨g, g0, g1, g2, g3, h1, h2⟩ := h; exact ⟨g, g0, g1, g2, g3, h1, h2.later hb⟩
theorem Mb.later {B m : Nat} {w w' : World} (h : Mb B w m) (hb : Below w.heap.size w w') : Mb B w' m := ⟨h.1, (hb.block m (Array.getElem?_eq_some_iff.1 h.2).1).trans h.2⟩
theorem MB.later {B : Nat} {w w' : World} {v : Value} (h : MB B w v) (hb : Below w.heap.size w w') : MB B w' v := by obtain ⟨m, h1, h2⟩ := h; exact ⟨m, h1, h2.later hb⟩
theorem SL.mk' {B n : Nat} {w : World} {cs : List Ins} (hB : B ≤ w.heap.size) : SL B (w.alloc (.cells (cs.flatMap Ins.cells).toArray 44)) (.slice (some ⟨w.heap.size, 0, none⟩) n n) n cs := ⟨_, rfl, hB, heap_alloc_new w _⟩
theorem MB.mk' {B : Nat} {w : World} (hB : B ≤ w.heap.size) : MB B (w.alloc (.cells #[.slice none 0 0, .slice none 0 0] 25)) (.pointer (some ⟨w.heap.size, 0, none⟩)) := ⟨_, rfl, hB, heap_alloc_new w _⟩
theorem FS.mk' {B g0 g1 g2 g3 : Nat} {w : World} (hB : B ≤ w.heap.size) (h0 : Cd B w g0 k0) (h1 : Cd B w g1 k1) (h2 : Cd B w g2 k2) (h3 : Cd B w g3 k3) :
    FS B (w.alloc (.cells ((smp g0 g1 g2 g3).flatMap FR.cells).toArray 42)) (.slice (some ⟨w.heap.size, 0, none⟩) 4 4) :=
  have hb : Below w.heap.size w (w.alloc (.cells ((smp g0 g1 g2 g3).flatMap FR.cells).toArray 42)) := (Below.refl _ _).alloc (Nat.le_refl _) _
  ⟨_, g0, g1, g2, g3, rfl, hB, heap_alloc_new w _, h0.later hb, h1.later hb, h2.later hb, h3.later hb⟩
theorem Mb.cells {B m : Nat} {w : World} (h : Mb B w m) : w.cell? ⟨m, 0, none⟩ = some (.slice none 0 0) ∧ w.cell? ⟨m, 1, none⟩ = some (.slice none 0 0) ∧ w.frozen? ⟨m, 0, none⟩ = false ∧ w.frozen? ⟨m, 1, none⟩ = false := by
  refine ⟨?_, ?_, ?_, ?_⟩
  · rw [cell_of_row w m 0 _ _ (0, 0) h.2]; rfl
  · rw [cell_of_row w m 1 _ _ (0, 0) h.2]; rfl
  · simp [World.frozen?, h.2]
  · simp [World.frozen?, h.2]
theorem MD.mk' {B m g g0 g1 g2 g3 : Nat} {w : World} (hm : Mb B w m) (h : Fs B w g g0 g1 g2 g3) : MD B ((w.setCell ⟨m, 0, none⟩ (.slice none 0 0)).setCell ⟨m, 1, none⟩ (.slice (some ⟨g, 0, none⟩) 4 4)) (.pointer (some ⟨m, 0, none⟩)) := by
  have hk : ∀ i, i ≠ m → ((w.setCell ⟨m, 0, none⟩ (.slice none 0 0)).setCell ⟨m, 1, none⟩ (.slice (some ⟨g, 0, none⟩) 4 4)).heap[i]? = w.heap[i]? := fun i hi => by
    rw [Below.heap_setCell _ _ _ _ hi, Below.heap_setCell _ _ _ _ hi]
  have hc : ∀ {gi : Nat} {cs : List Ins}, Cd B w gi cs → gi ≠ m := fun h e => by subst e; have := h.2.symm.trans hm.2; simp at this
  have hg : g ≠ m := fun e => by subst e; have := h.fs.symm.trans hm.2; simp at this
  refine ⟨m, g, g0, g1, g2, g3, rfl, hm.1, ?_, h.lo, (hk g hg).trans h.fs, ⟨h.c0.1, (hk _ (hc h.c0)).trans h.c0.2⟩, ⟨h.c1.1, (hk _ (hc h.c1)).trans h.c1.2⟩, ⟨h.c2.1, (hk _ (hc h.c2)).trans h.c2.2⟩, ⟨h.c3.1, (hk _ (hc h.c3)).trans h.c3.2⟩⟩
  simp [World.setCell, Array.getElem?_modify, hm.2]
theorem sliceIn_heap {w : World} {g n size : Nat} {e : TypeId} {cs : List Value} (h : w.heap[g]? = some (.cells cs.toArray e (0, 0))) (hl : cs.length = n * size) (hn : n ≤ maxLen) : SliceIn w (.slice (some ⟨g, 0, none⟩) n n) n size cs :=
  ⟨hl, _, n, rfl, Nat.le_refl _, hn, by simp, fun _ => ⟨g, 0, rfl, (Array.getElem?_eq_some_iff.1 h).1, fun j u hu => by
    rw [Nat.zero_add, cell_of_row w g j _ _ (0, 0) h]; simpa using hu⟩⟩
theorem code_len (l : List Ins) : (l.flatMap Ins.cells).length = l.length * 5 := by
  induction l with
  | nil => rfl
  | cons x l ih => rw [List.flatMap_cons, List.length_append, ih]; simp [Ins.cells]; omega
theorem Cd.code {B g n : Nat} {w : World} {cs : List Ins} (h : Cd B w g cs) (hn : cs.length = n) (hs : n ≤ 1000) : CodeIn w (.slice (some ⟨g, 0, none⟩) n n) cs := by
  subst hn
  exact sliceIn_heap h.2 (code_len cs) (by unfold maxLen; omega)
theorem smp_funcs {w : World} {k : List Ins} {n2 g g0 g1 g2 g3 : Nat} {B : Nat} (hf : w.heap[g]? = some (.cells ((smpK k n2 g0 g1 g2 g3).flatMap FR.cells).toArray 42 (0, 0))) (h0 : Cd B w g0 k0) (h1 : Cd B w g1 k1) (h2 : Cd B w g2 k) (hk : k.length = n2) (hk2 : n2 ≤ 1000) (h3 : Cd B w g3 k3) :
    FuncsIn w (.slice (some ⟨g, 0, none⟩) 4 4) (smpK k n2 g0 g1 g2 g3) := by
  refine ⟨sliceIn_heap hf rfl (by decide), fun x hx => ?_, by simp [smpK]⟩
  simp only [smpK, List.mem_cons, List.not_mem_nil, or_false] at hx
  rcases hx with rfl | rfl | rfl | rfl
  · exact ⟨h0.code rfl (by decide), sliceIn_nil w 2, by simp [k0], by simp⟩
  · exact ⟨h1.code rfl (by decide), sliceIn_nil w 2, by simp [k1], by simp⟩
  · exact ⟨h2.code hk hk2, sliceIn_nil w 2, by simp only; omega, by simp⟩
  · exact ⟨h3.code rfl (by decide), sliceIn_nil w 2, by simp [k3], by simp⟩
theorem eq_fault (w : World) (a b c : Int) : (Go.binOp .eql 35 (.agg #[.int .i64 a, .int .i64 b, .int .i64 c]) (.agg #[.int .i64 a, .int .i64 b, .int .i64 c])).run Tryd.prog w = .ok (.bool true) w := by
  simp [go_sem, Tryd.underlying35, Tryd.underlying33, Tryd.underlying3]
theorem sameInts15_true (va vb : Value) (l : List Int) (w : World) (ha : IntsIn w va l) (hb : IntsIn w vb l) (hl : l.length ≤ 1000000000000000) : Calls Tryd.prog 11 #[va, vb] w (Reads (.bool true) w) :=
  (sameInts15_any va vb l l w ha hb hl hl).mono fun e w' h => by rwa [decide_eq_true rfl] at h
/-- The sample in memory. -/
structure SM (w W : World) (m g g0 g1 g2 g3 : Nat) : Prop where
  lo : w.heap.size ≤ m
  hm : W.heap[m]? = some (.cells #[.slice none 0 0, .slice (some ⟨g, 0, none⟩) 4 4] 25 (0, 0))
  fs : Fs w.heap.size W g g0 g1 g2 g3
  below : Below w.heap.size w W
theorem SM.later {w W W' : World} {m g g0 g1 g2 g3 : Nat} (h : SM w W m g g0 g1 g2 g3) (hb : Below W.heap.size W W') : SM w W' m g g0 g1 g2 g3 :=
  ⟨h.lo, (hb.block m (Array.getElem?_eq_some_iff.1 h.hm).1).trans h.hm, h.fs.later hb, h.below.trans (hb.mono h.below.size)⟩
theorem SM.box {w W : World} {m g g0 g1 g2 g3 : Nat} (h : SM w W m g g0 g1 g2 g3) : W.cell? ⟨m, 0, none⟩ = some (.slice none 0 0) ∧ W.cell? ⟨m, 1, none⟩ = some (.slice (some ⟨g, 0, none⟩) 4 4) ∧ m < W.heap.size := by
  refine ⟨?_, ?_, (Array.getElem?_eq_some_iff.1 h.hm).1⟩
  · rw [cell_of_row W m 0 _ _ (0, 0) h.hm]; rfl
  · rw [cell_of_row W m 1 _ _ (0, 0) h.hm]; rfl
theorem SM.funcs {w W : World} {m g g0 g1 g2 g3 : Nat} (h : SM w W m g g0 g1 g2 g3) : FuncsIn W (.slice (some ⟨g, 0, none⟩) 4 4) (smp g0 g1 g2 g3) := smp_funcs h.fs.fs h.fs.c0 h.fs.c1 h.fs.c2 rfl (by decide) h.fs.c3
theorem Cd.mono {B B' g : Nat} {w : World} {cs : List Ins} (h : Cd B w g cs) (hB : B' ≤ B) : Cd B' w g cs := ⟨Nat.le_trans hB h.1, h.2⟩
theorem Fs.mono {B B' g g0 g1 g2 g3 : Nat} {w : World} (h : Fs B w g g0 g1 g2 g3) (hB : B' ≤ B) : Fs B' w g g0 g1 g2 g3 := ⟨Nat.le_trans hB h.lo, h.fs, h.c0.mono hB, h.c1.mono hB, h.c2.mono hB, h.c3.mono hB⟩
/-- The sample behind the store of other code into its third function. -/
theorem SM.turn {w W : World} {m g g0 g1 g2 g3 : Nat} (h : SM w W m g g0 g1 g2 g3) (n : Nat) (hn : n = W.heap.size + 1) (W' : World) (hW : W' = (((W.setCell ⟨g, 14, none⟩ (.slice (some ⟨n, 0, none⟩) 2 2)).alloc (.cells #[.int .i64 19, .int .i64 0, .int .i64 0, .int .i64 0, .int .i64 1] 44)).alloc
    (.cells #[.int .i64 19, .int .i64 0, .int .i64 0, .int .i64 0, .int .i64 1, .int .i64 0, .int .i64 0, .int .i64 0, .int .i64 0, .int .i64 0] 44)).drew) :
    FuncsIn W' (.slice (some ⟨g, 0, none⟩) 4 4) (smpK k4 2 g0 g1 n g3) ∧ W'.cell? ⟨m, 0, none⟩ = some (.slice none 0 0) ∧ W'.cell? ⟨m, 1, none⟩ = some (.slice (some ⟨g, 0, none⟩) 4 4) ∧ Below w.heap.size w W' := by
  subst hn
  have hgs : g < W.heap.size := (Array.getElem?_eq_some_iff.1 h.fs.fs).1
  have hk : ∀ i, i < W.heap.size → i ≠ g → W'.heap[i]? = W.heap[i]? := fun i hi hg => by
    rw [hW]
    show (World.alloc _ _).heap[i]? = _
    rw [Below.heap_alloc _ _ _ (by simp only [World.size_alloc, size_set]; omega), Below.heap_alloc _ _ _ (by rw [size_set]; exact hi), Below.heap_setCell _ _ _ _ hg]
  have hg : W'.heap[g]? = some (.cells ((smpK k4 2 g0 g1 (W.heap.size + 1) g3).flatMap FR.cells).toArray 42 (0, 0)) := by
    rw [hW]
    show (World.alloc _ _).heap[g]? = _
    rw [Below.heap_alloc _ _ _ (by simp only [World.size_alloc, size_set]; omega), Below.heap_alloc _ _ _ (by rw [size_set]; exact hgs)]
    simp only [World.setCell, Array.getElem?_modify, if_pos, h.fs.fs, Option.map_some]
    rfl
  have hn : W'.heap[W.heap.size + 1]? = some (.cells (k4.flatMap Ins.cells).toArray 44 (0, 0)) := by
    rw [hW]
    show (World.alloc _ _).heap[_]? = _
    have e : ((W.setCell ⟨g, 14, none⟩ (.slice (some ⟨W.heap.size + 1, 0, none⟩) 2 2)).alloc (.cells #[.int .i64 19, .int .i64 0, .int .i64 0, .int .i64 0, .int .i64 1] 44)).heap.size = W.heap.size + 1 := by rw [World.size_alloc, size_set]
    have h2 := heap_alloc_new ((W.setCell ⟨g, 14, none⟩ (.slice (some ⟨W.heap.size + 1, 0, none⟩) 2 2)).alloc (.cells #[.int .i64 19, .int .i64 0, .int .i64 0, .int .i64 0, .int .i64 1] 44)) (.cells (k4.flatMap Ins.cells).toArray 44)
    rw [e] at h2
    exact h2
  have hc : ∀ {gi : Nat} {cs : List Ins}, Cd w.heap.size W gi cs → Cd w.heap.size W' gi cs := fun hc => by
    have hl := (Array.getElem?_eq_some_iff.1 hc.2).1
    refine ⟨hc.1, (hk _ hl (fun e => ?_)).trans hc.2⟩
    have h1 := hc.2; have h2 := h.fs.fs
    rw [e] at h1
    have := h1.symm.trans h2; simp at this
  have hmg : m ≠ g := fun e => by have h1 := h.hm; have h2 := h.fs.fs; rw [e] at h1; have := h1.symm.trans h2; simp at this
  have hms : m < W.heap.size := (Array.getElem?_eq_some_iff.1 h.hm).1
  have hm : W'.heap[m]? = _ := (hk m hms hmg).trans h.hm
  refine ⟨smp_funcs (B := w.heap.size) hg (hc h.fs.c0) (hc h.fs.c1) ⟨by have := h.below.size; omega, hn⟩ rfl (by decide) (hc h.fs.c3), ?_, ?_, ?_⟩
  · rw [cell_of_row W' m 0 _ _ (0, 0) hm]; rfl
  · rw [cell_of_row W' m 1 _ _ (0, 0) hm]; rfl
  · rw [hW]
    refine (((h.below.setCell h.fs.lo _).alloc ?_ _).alloc ?_ _).drew
    · rw [size_set]; exact h.below.size
    · simp only [World.size_alloc, size_set]; have := h.below.size; omega
theorem deps_of {md : Region.Mode} {o : Oper} {L : Array Bool} (h : ∀ e ∈ o.after, Region.binds md e = true → L.getD e.on false = true) : (o.after.all fun e => !Region.binds md e || L.getD e.on false) = true := by
  refine Array.all_eq_true'.2 fun e he => ?_
  cases hb : Region.binds md e
  · rfl
  · simp only [Bool.not_true, Bool.false_or]; exact h e he hb
theorem getD_set_other {L : Array Bool} {i k : Nat} (hk : k ≠ i) : (L.setIfInBounds i true).getD k false = L.getD k false := by
  rw [Array.getD_eq_getD_getElem?, Array.getElem?_setIfInBounds_ne (by omega), Array.getD_eq_getD_getElem?]

structure R2 (B c : Nat) (w0 : World) (L : Array Bool) (w : World) (v2 v9 v10 v11 v12 v13 v14 v15 v16 v17 v18 v19 v20 v21 v22 v23 v24 v25 v26 : Value) : Prop where
  below : Below B w0 w
  size : B ≤ w.heap.size
  lt : c < B
  call : w.cell? ⟨c, 0, none⟩ = some (.int .i64 19) ∧ w.cell? ⟨c, 1, none⟩ = some (.int .i64 0) ∧ w.cell? ⟨c, 2, none⟩ = some (.int .i64 0) ∧ w.cell? ⟨c, 3, none⟩ = some (.int .i64 0) ∧ w.cell? ⟨c, 4, none⟩ = some (.int .i64 2)
  x0 : L.getD 0 false = true → v9 = insV ⟨19, 0, 0, 0, 2⟩
  x1 : L.getD 1 false = true → v10 = insV ⟨19, 0, 0, 0, 1⟩
  x2 : L.getD 2 false = true → v11 = insV ⟨0, 0, 0, 0, 0⟩
  x3 : L.getD 3 false = true → SL B w v12 3 k0
  x4 : L.getD 4 false = true → FN B w v13 3 k0
  x5 : L.getD 5 false = true → v14 = insV ⟨19, 0, 0, 0, 2⟩
  x6 : L.getD 6 false = true → v15 = insV ⟨0, 0, 0, 0, 0⟩
  x7 : L.getD 7 false = true → SL B w v16 2 k1
  x8 : L.getD 8 false = true → FN B w v17 2 k1
  x9 : L.getD 9 false = true → v18 = insV ⟨0, 0, 0, 0, 0⟩
  x10 : L.getD 10 false = true → SL B w v19 1 k2
  x11 : L.getD 11 false = true → FN B w v20 1 k2
  x12 : L.getD 12 false = true → v21 = insV ⟨0, 0, 0, 0, 0⟩
  x13 : L.getD 13 false = true → v22 = insV ⟨19, 0, 0, 0, 2⟩
  x14 : L.getD 14 false = true → SL B w v23 2 k3
  x15 : L.getD 15 false = true → FN B w v24 2 k3
  x16 : L.getD 16 false = true → FS B w v25
  x17 : L.getD 17 false = true → MS B w v26
  x18 : L.getD 18 false = true → MB B w v2
theorem R2.later {B c : Nat} {w0 w w' : World} {L : Array Bool} {v2 v9 v10 v11 v12 v13 v14 v15 v16 v17 v18 v19 v20 v21 v22 v23 v24 v25 v26 : Value} (h : R2 B c w0 L w v2 v9 v10 v11 v12 v13 v14 v15 v16 v17 v18 v19 v20 v21 v22 v23 v24 v25 v26) (hb : Below w.heap.size w w') : R2 B c w0 L w' v2 v9 v10 v11 v12 v13 v14 v15 v16 v17 v18 v19 v20 v21 v22 v23 v24 v25 v26 :=
  have hl := h.lt
  have hs := h.size
  have e : ∀ j, w'.cell? ⟨c, j, none⟩ = w.cell? ⟨c, j, none⟩ := fun j => hb.cell (p := ⟨c, j, none⟩) (by show c < _; omega)
  ⟨h.below.trans (hb.mono hs), Nat.le_trans hs hb.size, hl, ⟨(e 0).trans h.call.1, (e 1).trans h.call.2.1, (e 2).trans h.call.2.2.1, (e 3).trans h.call.2.2.2.1, (e 4).trans h.call.2.2.2.2⟩,
   h.x0, h.x1, h.x2, fun hk => (h.x3 hk).later hb, fun hk => (h.x4 hk).later hb, h.x5, h.x6, fun hk => (h.x7 hk).later hb, fun hk => (h.x8 hk).later hb, h.x9, fun hk => (h.x10 hk).later hb, fun hk => (h.x11 hk).later hb, h.x12, h.x13, fun hk => (h.x14 hk).later hb, fun hk => (h.x15 hk).later hb, fun hk => (h.x16 hk).later hb, fun hk => (h.x17 hk).later hb, fun hk => (h.x18 hk).later hb⟩
theorem R2.set0 {B c : Nat} {w0 w : World} {L : Array Bool} {v2 v9 v10 v11 v12 v13 v14 v15 v16 v17 v18 v19 v20 v21 v22 v23 v24 v25 v26 u : Value} (h : R2 B c w0 L w v2 v9 v10 v11 v12 v13 v14 v15 v16 v17 v18 v19 v20 v21 v22 v23 v24 v25 v26) (hu : u = insV ⟨19, 0, 0, 0, 2⟩) : R2 B c w0 (L.setIfInBounds 0 true) w v2 u v10 v11 v12 v13 v14 v15 v16 v17 v18 v19 v20 v21 v22 v23 v24 v25 v26 :=
  ⟨h.below, h.size, h.lt, h.call, fun _ => hu, fun hk => h.x1 (getD_set_ne hk (by decide)), fun hk => h.x2 (getD_set_ne hk (by decide)), fun hk => h.x3 (getD_set_ne hk (by decide)), fun hk => h.x4 (getD_set_ne hk (by decide)), fun hk => h.x5 (getD_set_ne hk (by decide)), fun hk => h.x6 (getD_set_ne hk (by decide)), fun hk => h.x7 (getD_set_ne hk (by decide)), fun hk => h.x8 (getD_set_ne hk (by decide)), fun hk => h.x9 (getD_set_ne hk (by decide)), fun hk => h.x10 (getD_set_ne hk (by decide)), fun hk => h.x11 (getD_set_ne hk (by decide)), fun hk => h.x12 (getD_set_ne hk (by decide)), fun hk => h.x13 (getD_set_ne hk (by decide)), fun hk => h.x14 (getD_set_ne hk (by decide)), fun hk => h.x15 (getD_set_ne hk (by decide)), fun hk => h.x16 (getD_set_ne hk (by decide)), fun hk => h.x17 (getD_set_ne hk (by decide)), fun hk => h.x18 (getD_set_ne hk (by decide))⟩
theorem R2.set1 {B c : Nat} {w0 w : World} {L : Array Bool} {v2 v9 v10 v11 v12 v13 v14 v15 v16 v17 v18 v19 v20 v21 v22 v23 v24 v25 v26 u : Value} (h : R2 B c w0 L w v2 v9 v10 v11 v12 v13 v14 v15 v16 v17 v18 v19 v20 v21 v22 v23 v24 v25 v26) (hu : u = insV ⟨19, 0, 0, 0, 1⟩) : R2 B c w0 (L.setIfInBounds 1 true) w v2 v9 u v11 v12 v13 v14 v15 v16 v17 v18 v19 v20 v21 v22 v23 v24 v25 v26 :=
  ⟨h.below, h.size, h.lt, h.call, fun hk => h.x0 (getD_set_ne hk (by decide)), fun _ => hu, fun hk => h.x2 (getD_set_ne hk (by decide)), fun hk => h.x3 (getD_set_ne hk (by decide)), fun hk => h.x4 (getD_set_ne hk (by decide)), fun hk => h.x5 (getD_set_ne hk (by decide)), fun hk => h.x6 (getD_set_ne hk (by decide)), fun hk => h.x7 (getD_set_ne hk (by decide)), fun hk => h.x8 (getD_set_ne hk (by decide)), fun hk => h.x9 (getD_set_ne hk (by decide)), fun hk => h.x10 (getD_set_ne hk (by decide)), fun hk => h.x11 (getD_set_ne hk (by decide)), fun hk => h.x12 (getD_set_ne hk (by decide)), fun hk => h.x13 (getD_set_ne hk (by decide)), fun hk => h.x14 (getD_set_ne hk (by decide)), fun hk => h.x15 (getD_set_ne hk (by decide)), fun hk => h.x16 (getD_set_ne hk (by decide)), fun hk => h.x17 (getD_set_ne hk (by decide)), fun hk => h.x18 (getD_set_ne hk (by decide))⟩
theorem R2.set2 {B c : Nat} {w0 w : World} {L : Array Bool} {v2 v9 v10 v11 v12 v13 v14 v15 v16 v17 v18 v19 v20 v21 v22 v23 v24 v25 v26 u : Value} (h : R2 B c w0 L w v2 v9 v10 v11 v12 v13 v14 v15 v16 v17 v18 v19 v20 v21 v22 v23 v24 v25 v26) (hu : u = insV ⟨0, 0, 0, 0, 0⟩) : R2 B c w0 (L.setIfInBounds 2 true) w v2 v9 v10 u v12 v13 v14 v15 v16 v17 v18 v19 v20 v21 v22 v23 v24 v25 v26 :=
  ⟨h.below, h.size, h.lt, h.call, fun hk => h.x0 (getD_set_ne hk (by decide)), fun hk => h.x1 (getD_set_ne hk (by decide)), fun _ => hu, fun hk => h.x3 (getD_set_ne hk (by decide)), fun hk => h.x4 (getD_set_ne hk (by decide)), fun hk => h.x5 (getD_set_ne hk (by decide)), fun hk => h.x6 (getD_set_ne hk (by decide)), fun hk => h.x7 (getD_set_ne hk (by decide)), fun hk => h.x8 (getD_set_ne hk (by decide)), fun hk => h.x9 (getD_set_ne hk (by decide)), fun hk => h.x10 (getD_set_ne hk (by decide)), fun hk => h.x11 (getD_set_ne hk (by decide)), fun hk => h.x12 (getD_set_ne hk (by decide)), fun hk => h.x13 (getD_set_ne hk (by decide)), fun hk => h.x14 (getD_set_ne hk (by decide)), fun hk => h.x15 (getD_set_ne hk (by decide)), fun hk => h.x16 (getD_set_ne hk (by decide)), fun hk => h.x17 (getD_set_ne hk (by decide)), fun hk => h.x18 (getD_set_ne hk (by decide))⟩
theorem R2.set3 {B c : Nat} {w0 w : World} {L : Array Bool} {v2 v9 v10 v11 v12 v13 v14 v15 v16 v17 v18 v19 v20 v21 v22 v23 v24 v25 v26 u : Value} (h : R2 B c w0 L w v2 v9 v10 v11 v12 v13 v14 v15 v16 v17 v18 v19 v20 v21 v22 v23 v24 v25 v26) (hu : SL B w u 3 k0) : R2 B c w0 (L.setIfInBounds 3 true) w v2 v9 v10 v11 u v13 v14 v15 v16 v17 v18 v19 v20 v21 v22 v23 v24 v25 v26 :=
  ⟨h.below, h.size, h.lt, h.call, fun hk => h.x0 (getD_set_ne hk (by decide)), fun hk => h.x1 (getD_set_ne hk (by decide)), fun hk => h.x2 (getD_set_ne hk (by decide)), fun _ => hu, fun hk => h.x4 (getD_set_ne hk (by decide)), fun hk => h.x5 (getD_set_ne hk (by decide)), fun hk => h.x6 (getD_set_ne hk (by decide)), fun hk => h.x7 (getD_set_ne hk (by decide)), fun hk => h.x8 (getD_set_ne hk (by decide)), fun hk => h.x9 (getD_set_ne hk (by decide)), fun hk => h.x10 (getD_set_ne hk (by decide)), fun hk => h.x11 (getD_set_ne hk (by decide)), fun hk => h.x12 (getD_set_ne hk (by decide)), fun hk => h.x13 (getD_set_ne hk (by decide)), fun hk => h.x14 (getD_set_ne hk (by decide)), fun hk => h.x15 (getD_set_ne hk (by decide)), fun hk => h.x16 (getD_set_ne hk (by decide)), fun hk => h.x17 (getD_set_ne hk (by decide)), fun hk => h.x18 (getD_set_ne hk (by decide))⟩
theorem R2.set4 {B c : Nat} {w0 w : World} {L : Array Bool} {v2 v9 v10 v11 v12 v13 v14 v15 v16 v17 v18 v19 v20 v21 v22 v23 v24 v25 v26 u : Value} (h : R2 B c w0 L w v2 v9 v10 v11 v12 v13 v14 v15 v16 v17 v18 v19 v20 v21 v22 v23 v24 v25 v26) (hu : FN B w u 3 k0) : R2 B c w0 (L.setIfInBounds 4 true) w v2 v9 v10 v11 v12 u v14 v15 v16 v17 v18 v19 v20 v21 v22 v23 v24 v25 v26 :=
  ⟨h.below, h.size, h.lt, h.call, fun hk => h.x0 (getD_set_ne hk (by decide)), fun hk => h.x1 (getD_set_ne hk (by decide)), fun hk => h.x2 (getD_set_ne hk (by decide)), fun hk => h.x3 (getD_set_ne hk (by decide)), fun _ => hu, fun hk => h.x5 (getD_set_ne hk (by decide)), fun hk => h.x6 (getD_set_ne hk (by decide)), fun hk => h.x7 (getD_set_ne hk (by decide)), fun hk => h.x8 (getD_set_ne hk (by decide)), fun hk => h.x9 (getD_set_ne hk (by decide)), fun hk => h.x10 (getD_set_ne hk (by decide)), fun hk => h.x11 (getD_set_ne hk (by decide)), fun hk => h.x12 (getD_set_ne hk (by decide)), fun hk => h.x13 (getD_set_ne hk (by decide)), fun hk => h.x14 (getD_set_ne hk (by decide)), fun hk => h.x15 (getD_set_ne hk (by decide)), fun hk => h.x16 (getD_set_ne hk (by decide)), fun hk => h.x17 (getD_set_ne hk (by decide)), fun hk => h.x18 (getD_set_ne hk (by decide))⟩
theorem R2.set5 {B c : Nat} {w0 w : World} {L : Array Bool} {v2 v9 v10 v11 v12 v13 v14 v15 v16 v17 v18 v19 v20 v21 v22 v23 v24 v25 v26 u : Value} (h : R2 B c w0 L w v2 v9 v10 v11 v12 v13 v14 v15 v16 v17 v18 v19 v20 v21 v22 v23 v24 v25 v26) (hu : u = insV ⟨19, 0, 0, 0, 2⟩) : R2 B c w0 (L.setIfInBounds 5 true) w v2 v9 v10 v11 v12 v13 u v15 v16 v17 v18 v19 v20 v21 v22 v23 v24 v25 v26 :=
  ⟨h.below, h.size, h.lt, h.call, fun hk => h.x0 (getD_set_ne hk (by decide)), fun hk => h.x1 (getD_set_ne hk (by decide)), fun hk => h.x2 (getD_set_ne hk (by decide)), fun hk => h.x3 (getD_set_ne hk (by decide)), fun hk => h.x4 (getD_set_ne hk (by decide)), fun _ => hu, fun hk => h.x6 (getD_set_ne hk (by decide)), fun hk => h.x7 (getD_set_ne hk (by decide)), fun hk => h.x8 (getD_set_ne hk (by decide)), fun hk => h.x9 (getD_set_ne hk (by decide)), fun hk => h.x10 (getD_set_ne hk (by decide)), fun hk => h.x11 (getD_set_ne hk (by decide)), fun hk => h.x12 (getD_set_ne hk (by decide)), fun hk => h.x13 (getD_set_ne hk (by decide)), fun hk => h.x14 (getD_set_ne hk (by decide)), fun hk => h.x15 (getD_set_ne hk (by decide)), fun hk => h.x16 (getD_set_ne hk (by decide)), fun hk => h.x17 (getD_set_ne hk (by decide)), fun hk => h.x18 (getD_set_ne hk (by decide))⟩
theorem R2.set6 {B c : Nat} {w0 w : World} {L : Array Bool} {v2 v9 v10 v11 v12 v13 v14 v15 v16 v17 v18 v19 v20 v21 v22 v23 v24 v25 v26 u : Value} (h : R2 B c w0 L w v2 v9 v10 v11 v12 v13 v14 v15 v16 v17 v18 v19 v20 v21 v22 v23 v24 v25 v26) (hu : u = insV ⟨0, 0, 0, 0, 0⟩) : R2 B c w0 (L.setIfInBounds 6 true) w v2 v9 v10 v11 v12 v13 v14 u v16 v17 v18 v19 v20 v21 v22 v23 v24 v25 v26 :=
  ⟨h.below, h.size, h.lt, h.call, fun hk => h.x0 (getD_set_ne hk (by decide)), fun hk => h.x1 (getD_set_ne hk (by decide)), fun hk => h.x2 (getD_set_ne hk (by decide)), fun hk => h.x3 (getD_set_ne hk (by decide)), fun hk => h.x4 (getD_set_ne hk (by decide)), fun hk => h.x5 (getD_set_ne hk (by decide)), fun _ => hu, fun hk => h.x7 (getD_set_ne hk (by decide)), fun hk => h.x8 (getD_set_ne hk (by decide)), fun hk => h.x9 (getD_set_ne hk (by decide)), fun hk => h.x10 (getD_set_ne hk (by decide)), fun hk => h.x11 (getD_set_ne hk (by decide)), fun hk => h.x12 (getD_set_ne hk (by decide)), fun hk => h.x13 (getD_set_ne hk (by decide)), fun hk => h.x14 (getD_set_ne hk (by decide)), fun hk => h.x15 (getD_set_ne hk (by decide)), fun hk => h.x16 (getD_set_ne hk (by decide)), fun hk => h.x17 (getD_set_ne hk (by decide)), fun hk => h.x18 (getD_set_ne hk (by decide))⟩
theorem R2.set7 {B c : Nat} {w0 w : World} {L : Array Bool} {v2 v9 v10 v11 v12 v13 v14 v15 v16 v17 v18 v19 v20 v21 v22 v23 v24 v25 v26 u : Value} (h : R2 B c w0 L w v2 v9 v10 v11 v12 v13 v14 v15 v16 v17 v18 v19 v20 v21 v22 v23 v24 v25 v26) (hu : SL B w u 2 k1) : R2 B c w0 (L.setIfInBounds 7 true) w v2 v9 v10 v11 v12 v13 v14 v15 u v17 v18 v19 v20 v21 v22 v23 v24 v25 v26 :=
  ⟨h.below, h.size, h.lt, h.call, fun hk => h.x0 (getD_set_ne hk (by decide)), fun hk => h.x1 (getD_set_ne hk (by decide)), fun hk => h.x2 (getD_set_ne hk (by decide)), fun hk => h.x3 (getD_set_ne hk (by decide)), fun hk => h.x4 (getD_set_ne hk (by decide)), fun hk => h.x5 (getD_set_ne hk (by decide)), fun hk => h.x6 (getD_set_ne hk (by decide)), fun _ => hu, fun hk => h.x8 (getD_set_ne hk (by decide)), fun hk => h.x9 (getD_set_ne hk (by decide)), fun hk => h.x10 (getD_set_ne hk (by decide)), fun hk => h.x11 (getD_set_ne hk (by decide)), fun hk => h.x12 (getD_set_ne hk (by decide)), fun hk => h.x13 (getD_set_ne hk (by decide)), fun hk => h.x14 (getD_set_ne hk (by decide)), fun hk => h.x15 (getD_set_ne hk (by decide)), fun hk => h.x16 (getD_set_ne hk (by decide)), fun hk => h.x17 (getD_set_ne hk (by decide)), fun hk => h.x18 (getD_set_ne hk (by decide))⟩
theorem R2.set8 {B c : Nat} {w0 w : World} {L : Array Bool} {v2 v9 v10 v11 v12 v13 v14 v15 v16 v17 v18 v19 v20 v21 v22 v23 v24 v25 v26 u : Value} (h : R2 B c w0 L w v2 v9 v10 v11 v12 v13 v14 v15 v16 v17 v18 v19 v20 v21 v22 v23 v24 v25 v26) (hu : FN B w u 2 k1) : R2 B c w0 (L.setIfInBounds 8 true) w v2 v9 v10 v11 v12 v13 v14 v15 v16 u v18 v19 v20 v21 v22 v23 v24 v25 v26 :=
  ⟨h.below, h.size, h.lt, h.call, fun hk => h.x0 (getD_set_ne hk (by decide)), fun hk => h.x1 (getD_set_ne hk (by decide)), fun hk => h.x2 (getD_set_ne hk (by decide)), fun hk => h.x3 (getD_set_ne hk (by decide)), fun hk => h.x4 (getD_set_ne hk (by decide)), fun hk => h.x5 (getD_set_ne hk (by decide)), fun hk => h.x6 (getD_set_ne hk (by decide)), fun hk => h.x7 (getD_set_ne hk (by decide)), fun _ => hu, fun hk => h.x9 (getD_set_ne hk (by decide)), fun hk => h.x10 (getD_set_ne hk (by decide)), fun hk => h.x11 (getD_set_ne hk (by decide)), fun hk => h.x12 (getD_set_ne hk (by decide)), fun hk => h.x13 (getD_set_ne hk (by decide)), fun hk => h.x14 (getD_set_ne hk (by decide)), fun hk => h.x15 (getD_set_ne hk (by decide)), fun hk => h.x16 (getD_set_ne hk (by decide)), fun hk => h.x17 (getD_set_ne hk (by decide)), fun hk => h.x18 (getD_set_ne hk (by decide))⟩
theorem R2.set9 {B c : Nat} {w0 w : World} {L : Array Bool} {v2 v9 v10 v11 v12 v13 v14 v15 v16 v17 v18 v19 v20 v21 v22 v23 v24 v25 v26 u : Value} (h : R2 B c w0 L w v2 v9 v10 v11 v12 v13 v14 v15 v16 v17 v18 v19 v20 v21 v22 v23 v24 v25 v26) (hu : u = insV ⟨0, 0, 0, 0, 0⟩) : R2 B c w0 (L.setIfInBounds 9 true) w v2 v9 v10 v11 v12 v13 v14 v15 v16 v17 u v19 v20 v21 v22 v23 v24 v25 v26 :=
  ⟨h.below, h.size, h.lt, h.call, fun hk => h.x0 (getD_set_ne hk (by decide)), fun hk => h.x1 (getD_set_ne hk (by decide)), fun hk => h.x2 (getD_set_ne hk (by decide)), fun hk => h.x3 (getD_set_ne hk (by decide)), fun hk => h.x4 (getD_set_ne hk (by decide)), fun hk => h.x5 (getD_set_ne hk (by decide)), fun hk => h.x6 (getD_set_ne hk (by decide)), fun hk => h.x7 (getD_set_ne hk (by decide)), fun hk => h.x8 (getD_set_ne hk (by decide)), fun _ => hu, fun hk => h.x10 (getD_set_ne hk (by decide)), fun hk => h.x11 (getD_set_ne hk (by decide)), fun hk => h.x12 (getD_set_ne hk (by decide)), fun hk => h.x13 (getD_set_ne hk (by decide)), fun hk => h.x14 (getD_set_ne hk (by decide)), fun hk => h.x15 (getD_set_ne hk (by decide)), fun hk => h.x16 (getD_set_ne hk (by decide)), fun hk => h.x17 (getD_set_ne hk (by decide)), fun hk => h.x18 (getD_set_ne hk (by decide))⟩
theorem R2.set10 {B c : Nat} {w0 w : World} {L : Array Bool} {v2 v9 v10 v11 v12 v13 v14 v15 v16 v17 v18 v19 v20 v21 v22 v23 v24 v25 v26 u : Value} (h : R2 B c w0 L w v2 v9 v10 v11 v12 v13 v14 v15 v16 v17 v18 v19 v20 v21 v22 v23 v24 v25 v26) (hu : SL B w u 1 k2) : R2 B c w0 (L.setIfInBounds 10 true) w v2 v9 v10 v11 v12 v13 v14 v15 v16 v17 v18 u v20 v21 v22 v23 v24 v25 v26 :=
  ⟨h.below, h.size, h.lt, h.call, fun hk => h.x0 (getD_set_ne hk (by decide)), fun hk => h.x1 (getD_set_ne hk (by decide)), fun hk => h.x2 (getD_set_ne hk (by decide)), fun hk => h.x3 (getD_set_ne hk (by decide)), fun hk => h.x4 (getD_set_ne hk (by decide)), fun hk => h.x5 (getD_set_ne hk (by decide)), fun hk => h.x6 (getD_set_ne hk (by decide)), fun hk => h.x7 (getD_set_ne hk (by decide)), fun hk => h.x8 (getD_set_ne hk (by decide)), fun hk => h.x9 (getD_set_ne hk (by decide)), fun _ => hu, fun hk => h.x11 (getD_set_ne hk (by decide)), fun hk => h.x12 (getD_set_ne hk (by decide)), fun hk => h.x13 (getD_set_ne hk (by decide)), fun hk => h.x14 (getD_set_ne hk (by decide)), fun hk => h.x15 (getD_set_ne hk (by decide)), fun hk => h.x16 (getD_set_ne hk (by decide)), fun hk => h.x17 (getD_set_ne hk (by decide)), fun hk => h.x18 (getD_set_ne hk (by decide))⟩
theorem R2.set11 {B c : Nat} {w0 w : World} {L : Array Bool} {v2 v9 v10 v11 v12 v13 v14 v15 v16 v17 v18 v19 v20 v21 v22 v23 v24 v25 v26 u : Value} (h : R2 B c w0 L w v2 v9 v10 v11 v12 v13 v14 v15 v16 v17 v18 v19 v20 v21 v22 v23 v24 v25 v26) (hu : FN B w u 1 k2) : R2 B c w0 (L.setIfInBounds 11 true) w v2 v9 v10 v11 v12 v13 v14 v15 v16 v17 v18 v19 u v21 v22 v23 v24 v25 v26 :=
  ⟨h.below, h.size, h.lt, h.call, fun hk => h.x0 (getD_set_ne hk (by decide)), fun hk => h.x1 (getD_set_ne hk (by decide)), fun hk => h.x2 (getD_set_ne hk (by decide)), fun hk => h.x3 (getD_set_ne hk (by decide)), fun hk => h.x4 (getD_set_ne hk (by decide)), fun hk => h.x5 (getD_set_ne hk (by decide)), fun hk => h.x6 (getD_set_ne hk (by decide)), fun hk => h.x7 (getD_set_ne hk (by decide)), fun hk => h.x8 (getD_set_ne hk (by decide)), fun hk => h.x9 (getD_set_ne hk (by decide)), fun hk => h.x10 (getD_set_ne hk (by decide)), fun _ => hu, fun hk => h.x12 (getD_set_ne hk (by decide)), fun hk => h.x13 (getD_set_ne hk (by decide)), fun hk => h.x14 (getD_set_ne hk (by decide)), fun hk => h.x15 (getD_set_ne hk (by decide)), fun hk => h.x16 (getD_set_ne hk (by decide)), fun hk => h.x17 (getD_set_ne hk (by decide)), fun hk => h.x18 (getD_set_ne hk (by decide))⟩
theorem R2.set12 {B c : Nat} {w0 w : World} {L : Array Bool} {v2 v9 v10 v11 v12 v13 v14 v15 v16 v17 v18 v19 v20 v21 v22 v23 v24 v25 v26 u : Value} (h : R2 B c w0 L w v2 v9 v10 v11 v12 v13 v14 v15 v16 v17 v18 v19 v20 v21 v22 v23 v24 v25 v26) (hu : u = insV ⟨0, 0, 0, 0, 0⟩) : R2 B c w0 (L.setIfInBounds 12 true) w v2 v9 v10 v11 v12 v13 v14 v15 v16 v17 v18 v19 v20 u v22 v23 v24 v25 v26 :=
  ⟨h.below, h.size, h.lt, h.call, fun hk => h.x0 (getD_set_ne hk (by decide)), fun hk => h.x1 (getD_set_ne hk (by decide)), fun hk => h.x2 (getD_set_ne hk (by decide)), fun hk => h.x3 (getD_set_ne hk (by decide)), fun hk => h.x4 (getD_set_ne hk (by decide)), fun hk => h.x5 (getD_set_ne hk (by decide)), fun hk => h.x6 (getD_set_ne hk (by decide)), fun hk => h.x7 (getD_set_ne hk (by decide)), fun hk => h.x8 (getD_set_ne hk (by decide)), fun hk => h.x9 (getD_set_ne hk (by decide)), fun hk => h.x10 (getD_set_ne hk (by decide)), fun hk => h.x11 (getD_set_ne hk (by decide)), fun _ => hu, fun hk => h.x13 (getD_set_ne hk (by decide)), fun hk => h.x14 (getD_set_ne hk (by decide)), fun hk => h.x15 (getD_set_ne hk (by decide)), fun hk => h.x16 (getD_set_ne hk (by decide)), fun hk => h.x17 (getD_set_ne hk (by decide)), fun hk => h.x18 (getD_set_ne hk (by decide))⟩
theorem R2.set13 {B c : Nat} {w0 w : World} {L : Array Bool} {v2 v9 v10 v11 v12 v13 v14 v15 v16 v17 v18 v19 v20 v21 v22 v23 v24 v25 v26 u : Value} (h : R2 B c w0 L w v2 v9 v10 v11 v12 v13 v14 v15 v16 v17 v18 v19 v20 v21 v22 v23 v24 v25 v26) (hu : u = insV ⟨19, 0, 0, 0, 2⟩) : R2 B c w0 (L.setIfInBounds 13 true) w v2 v9 v10 v11 v12 v13 v14 v15 v16 v17 v18 v19 v20 v21 u v23 v24 v25 v26 :=
  ⟨h.below, h.size, h.lt, h.call, fun hk => h.x0 (getD_set_ne hk (by decide)), fun hk => h.x1 (getD_set_ne hk (by decide)), fun hk => h.x2 (getD_set_ne hk (by decide)), fun hk => h.x3 (getD_set_ne hk (by decide)), fun hk => h.x4 (getD_set_ne hk (by decide)), fun hk => h.x5 (getD_set_ne hk (by decide)), fun hk => h.x6 (getD_set_ne hk (by decide)), fun hk => h.x7 (getD_set_ne hk (by decide)), fun hk => h.x8 (getD_set_ne hk (by decide)), fun hk => h.x9 (getD_set_ne hk (by decide)), fun hk => h.x10 (getD_set_ne hk (by decide)), fun hk => h.x11 (getD_set_ne hk (by decide)), fun hk => h.x12 (getD_set_ne hk (by decide)), fun _ => hu, fun hk => h.x14 (getD_set_ne hk (by decide)), fun hk => h.x15 (getD_set_ne hk (by decide)), fun hk => h.x16 (getD_set_ne hk (by decide)), fun hk => h.x17 (getD_set_ne hk (by decide)), fun hk => h.x18 (getD_set_ne hk (by decide))⟩
theorem R2.set14 {B c : Nat} {w0 w : World} {L : Array Bool} {v2 v9 v10 v11 v12 v13 v14 v15 v16 v17 v18 v19 v20 v21 v22 v23 v24 v25 v26 u : Value} (h : R2 B c w0 L w v2 v9 v10 v11 v12 v13 v14 v15 v16 v17 v18 v19 v20 v21 v22 v23 v24 v25 v26) (hu : SL B w u 2 k3) : R2 B c w0 (L.setIfInBounds 14 true) w v2 v9 v10 v11 v12 v13 v14 v15 v16 v17 v18 v19 v20 v21 v22 u v24 v25 v26 :=
  ⟨h.below, h.size, h.lt, h.call, fun hk => h.x0 (getD_set_ne hk (by decide)), fun hk => h.x1 (getD_set_ne hk (by decide)), fun hk => h.x2 (getD_set_ne hk (by decide)), fun hk => h.x3 (getD_set_ne hk (by decide)), fun hk => h.x4 (getD_set_ne hk (by decide)), fun hk => h.x5 (getD_set_ne hk (by decide)), fun hk => h.x6 (getD_set_ne hk (by decide)), fun hk => h.x7 (getD_set_ne hk (by decide)), fun hk => h.x8 (getD_set_ne hk (by decide)), fun hk => h.x9 (getD_set_ne hk (by decide)), fun hk => h.x10 (getD_set_ne hk (by decide)), fun hk => h.x11 (getD_set_ne hk (by decide)), fun hk => h.x12 (getD_set_ne hk (by decide)), fun hk => h.x13 (getD_set_ne hk (by decide)), fun _ => hu, fun hk => h.x15 (getD_set_ne hk (by decide)), fun hk => h.x16 (getD_set_ne hk (by decide)), fun hk => h.x17 (getD_set_ne hk (by decide)), fun hk => h.x18 (getD_set_ne hk (by decide))⟩
theorem R2.set15 {B c : Nat} {w0 w : World} {L : Array Bool} {v2 v9 v10 v11 v12 v13 v14 v15 v16 v17 v18 v19 v20 v21 v22 v23 v24 v25 v26 u : Value} (h : R2 B c w0 L w v2 v9 v10 v11 v12 v13 v14 v15 v16 v17 v18 v19 v20 v21 v22 v23 v24 v25 v26) (hu : FN B w u 2 k3) : R2 B c w0 (L.setIfInBounds 15 true) w v2 v9 v10 v11 v12 v13 v14 v15 v16 v17 v18 v19 v20 v21 v22 v23 u v25 v26 :=
  ⟨h.below, h.size, h.lt, h.call, fun hk => h.x0 (getD_set_ne hk (by decide)), fun hk => h.x1 (getD_set_ne hk (by decide)), fun hk => h.x2 (getD_set_ne hk (by decide)), fun hk => h.x3 (getD_set_ne hk (by decide)), fun hk => h.x4 (getD_set_ne hk (by decide)), fun hk => h.x5 (getD_set_ne hk (by decide)), fun hk => h.x6 (getD_set_ne hk (by decide)), fun hk => h.x7 (getD_set_ne hk (by decide)), fun hk => h.x8 (getD_set_ne hk (by decide)), fun hk => h.x9 (getD_set_ne hk (by decide)), fun hk => h.x10 (getD_set_ne hk (by decide)), fun hk => h.x11 (getD_set_ne hk (by decide)), fun hk => h.x12 (getD_set_ne hk (by decide)), fun hk => h.x13 (getD_set_ne hk (by decide)), fun hk => h.x14 (getD_set_ne hk (by decide)), fun _ => hu, fun hk => h.x16 (getD_set_ne hk (by decide)), fun hk => h.x17 (getD_set_ne hk (by decide)), fun hk => h.x18 (getD_set_ne hk (by decide))⟩
theorem R2.set16 {B c : Nat} {w0 w : World} {L : Array Bool} {v2 v9 v10 v11 v12 v13 v14 v15 v16 v17 v18 v19 v20 v21 v22 v23 v24 v25 v26 u : Value} (h : R2 B c w0 L w v2 v9 v10 v11 v12 v13 v14 v15 v16 v17 v18 v19 v20 v21 v22 v23 v24 v25 v26) (hu : FS B w u) : R2 B c w0 (L.setIfInBounds 16 true) w v2 v9 v10 v11 v12 v13 v14 v15 v16 v17 v18 v19 v20 v21 v22 v23 v24 u v26 :=
  ⟨h.below, h.size, h.lt, h.call, fun hk => h.x0 (getD_set_ne hk (by decide)), fun hk => h.x1 (getD_set_ne hk (by decide)), fun hk => h.x2 (getD_set_ne hk (by decide)), fun hk => h.x3 (getD_set_ne hk (by decide)), fun hk => h.x4 (getD_set_ne hk (by decide)), fun hk => h.x5 (getD_set_ne hk (by decide)), fun hk => h.x6 (getD_set_ne hk (by decide)), fun hk => h.x7 (getD_set_ne hk (by decide)), fun hk => h.x8 (getD_set_ne hk (by decide)), fun hk => h.x9 (getD_set_ne hk (by decide)), fun hk => h.x10 (getD_set_ne hk (by decide)), fun hk => h.x11 (getD_set_ne hk (by decide)), fun hk => h.x12 (getD_set_ne hk (by decide)), fun hk => h.x13 (getD_set_ne hk (by decide)), fun hk => h.x14 (getD_set_ne hk (by decide)), fun hk => h.x15 (getD_set_ne hk (by decide)), fun _ => hu, fun hk => h.x17 (getD_set_ne hk (by decide)), fun hk => h.x18 (getD_set_ne hk (by decide))⟩
theorem R2.set17 {B c : Nat} {w0 w : World} {L : Array Bool} {v2 v9 v10 v11 v12 v13 v14 v15 v16 v17 v18 v19 v20 v21 v22 v23 v24 v25 v26 u : Value} (h : R2 B c w0 L w v2 v9 v10 v11 v12 v13 v14 v15 v16 v17 v18 v19 v20 v21 v22 v23 v24 v25 v26) (hu : MS B w u) : R2 B c w0 (L.setIfInBounds 17 true) w v2 v9 v10 v11 v12 v13 v14 v15 v16 v17 v18 v19 v20 v21 v22 v23 v24 v25 u :=
  ⟨h.below, h.size, h.lt, h.call, fun hk => h.x0 (getD_set_ne hk (by decide)), fun hk => h.x1 (getD_set_ne hk (by decide)), fun hk => h.x2 (getD_set_ne hk (by decide)), fun hk => h.x3 (getD_set_ne hk (by decide)), fun hk => h.x4 (getD_set_ne hk (by decide)), fun hk => h.x5 (getD_set_ne hk (by decide)), fun hk => h.x6 (getD_set_ne hk (by decide)), fun hk => h.x7 (getD_set_ne hk (by decide)), fun hk => h.x8 (getD_set_ne hk (by decide)), fun hk => h.x9 (getD_set_ne hk (by decide)), fun hk => h.x10 (getD_set_ne hk (by decide)), fun hk => h.x11 (getD_set_ne hk (by decide)), fun hk => h.x12 (getD_set_ne hk (by decide)), fun hk => h.x13 (getD_set_ne hk (by decide)), fun hk => h.x14 (getD_set_ne hk (by decide)), fun hk => h.x15 (getD_set_ne hk (by decide)), fun hk => h.x16 (getD_set_ne hk (by decide)), fun _ => hu, fun hk => h.x18 (getD_set_ne hk (by decide))⟩
theorem R2.set18 {B c : Nat} {w0 w : World} {L : Array Bool} {v2 v9 v10 v11 v12 v13 v14 v15 v16 v17 v18 v19 v20 v21 v22 v23 v24 v25 v26 u : Value} (h : R2 B c w0 L w v2 v9 v10 v11 v12 v13 v14 v15 v16 v17 v18 v19 v20 v21 v22 v23 v24 v25 v26) (hu : MB B w u) : R2 B c w0 (L.setIfInBounds 18 true) w u v9 v10 v11 v12 v13 v14 v15 v16 v17 v18 v19 v20 v21 v22 v23 v24 v25 v26 :=
  ⟨h.below, h.size, h.lt, h.call, fun hk => h.x0 (getD_set_ne hk (by decide)), fun hk => h.x1 (getD_set_ne hk (by decide)), fun hk => h.x2 (getD_set_ne hk (by decide)), fun hk => h.x3 (getD_set_ne hk (by decide)), fun hk => h.x4 (getD_set_ne hk (by decide)), fun hk => h.x5 (getD_set_ne hk (by decide)), fun hk => h.x6 (getD_set_ne hk (by decide)), fun hk => h.x7 (getD_set_ne hk (by decide)), fun hk => h.x8 (getD_set_ne hk (by decide)), fun hk => h.x9 (getD_set_ne hk (by decide)), fun hk => h.x10 (getD_set_ne hk (by decide)), fun hk => h.x11 (getD_set_ne hk (by decide)), fun hk => h.x12 (getD_set_ne hk (by decide)), fun hk => h.x13 (getD_set_ne hk (by decide)), fun hk => h.x14 (getD_set_ne hk (by decide)), fun hk => h.x15 (getD_set_ne hk (by decide)), fun hk => h.x16 (getD_set_ne hk (by decide)), fun hk => h.x17 (getD_set_ne hk (by decide)), fun _ => hu⟩
abbrev frame2 (c : Nat) (v2 v9 v10 v11 v12 v13 v14 v15 v16 v17 v18 v19 v20 v21 v22 v23 v24 v25 v26 : Value) : Act := { tmps := #[Value.bool false, Value.pointer (some ⟨c, 0, none⟩), v2, undef, undef, undef, undef, undef, insV ⟨19, 0, 0, 0, 2⟩, v9, v10, v11, v12, v13, v14, v15, v16, v17, v18, v19, v20, v21, v22, v23, v24, v25, v26, undef, undef, undef, undef, undef, undef, undef, undef, undef, undef, undef, undef, undef, undef, undef, undef, undef, undef, undef, undef, undef, undef, undef, undef, undef, undef, undef, undef, undef, undef, undef, undef, undef, undef, undef, undef, undef, undef, undef, undef, undef, undef, undef, undef, undef, undef, undef, undef], defers := [] }
def Inv2 (B c : Nat) (w0 : World) (L : Array Bool) (a : Act) (w : World) : Prop := ∃ v2 v9 v10 v11 v12 v13 v14 v15 v16 v17 v18 v19 v20 v21 v22 v23 v24 v25 v26, a = frame2 c v2 v9 v10 v11 v12 v13 v14 v15 v16 v17 v18 v19 v20 v21 v22 v23 v24 v25 v26 ∧
  ((L.getD 19 false = false ∧ R2 B c w0 L w v2 v9 v10 v11 v12 v13 v14 v15 v16 v17 v18 v19 v20 v21 v22 v23 v24 v25 v26) ∨ ((∀ k, k < 20 → L.getD k false = true) ∧ MD B w v2 ∧ Below B w0 w))

set_option maxRecDepth 100000 in
set_option maxHeartbeats 4000000 in
theorem fixed15_any (w : World) (hw : WordsIn w) : Calls Tryd.prog 10 #[] w (Gives (.bool true) w) := by
  have Hw := Lib.hid hw
  clear hw
  go_enter Tryd.func10, Tryd.ntmps10
  go_wp2_with fail
  refine (func0_any 2 _).mono ?_
  rintro e w1 ⟨rfl, hb1⟩
  go_wp2_with fail
  obtain ⟨c, hc⟩ : ∃ c, c = w1.heap.size := ⟨_, rfl⟩
  rw [← hc]
  have Hc := Lib.hid hc
  clear hc
  refine wp_region_any rfl ?_
  change wpAny _ _ _ _ _ _ _ (w1.alloc (.cells #[.int .i64 19, .int .i64 0, .int .i64 0, .int .i64 0, .int .i64 2] 44)).drew
  obtain ⟨W0, hW0⟩ : ∃ W0, W0 = (w1.alloc (.cells #[.int .i64 19, .int .i64 0, .int .i64 0, .int .i64 0, .int .i64 2] 44)).drew := ⟨_, rfl⟩
  rw [← hW0]
  have HW0 := Lib.hid hW0
  clear hW0
  refine wpAny_inv (Inv2 (c + 1) c W0) ?_ ?_ _ _ _ _ rfl (by decide) ?_
  · intro L a w' i hs hI hi
    obtain ⟨o, ho, hlt, hLi, hall⟩ := ready_spec hi
    obtain ⟨v2, v9, v10, v11, v12, v13, v14, v15, v16, v17, v18, v19, v20, v21, v22, v23, v24, v25, v26, rfl, hI⟩ := hI
    rcases hI with ⟨h19, hR⟩ | ⟨hfull, _⟩
    · have hno : ¬ LetsOut (fun ex a w => ex = .normal ∧ Inv2 (c + 1) c W0 (L.setIfInBounds i true) a w) := by rintro ⟨a, w, h, _⟩; cases h
      have hlt2 : i < 20 := hlt
      have hlt3 := hlt
      clear hi hlt
      match i, hlt2 with
      | 0, _ =>
        have ho2 := ho
        simp only [List.getElem?_toArray, List.getElem?_cons_zero, Option.some.injEq] at ho2
        subst ho2
        obtain ⟨c0, c1, c2, c3, c4⟩ := hR.call
        have HR := Lib.hid hR
        clear hR
        have hf9 : (L.setIfInBounds 0 true).getD 19 false = false := by rw [getD_set_other (by decide)]; exact h19
        refine wpOp_of_list ho ?_ hno
        go_wp2_with fail
        exact ⟨_, _, _, _, _, _, _, _, _, _, _, _, _, _, _, _, _, _, _, rfl, .inl ⟨hf9, HR.out.set0 rfl⟩⟩
      | 1, _ =>
        have ho2 := ho
        simp only [List.getElem?_toArray, List.getElem?_cons_succ, List.getElem?_cons_zero, Option.some.injEq] at ho2
        subst ho2
        have HR := Lib.hid hR
        clear hR
        have hf9 : (L.setIfInBounds 1 true).getD 19 false = false := by rw [getD_set_other (by decide)]; exact h19
        refine wpOp_of_list ho ?_ hno
        go_wp2_with fail
        refine (func0_any 1 _).mono ?_
        rintro e w1 ⟨rfl, hb1⟩
        have Hb1 := Lib.hid hb1; clear hb1
        go_wp2_with fail
        exact ⟨_, _, _, _, _, _, _, _, _, _, _, _, _, _, _, _, _, _, _, rfl, .inl ⟨hf9, (HR.out.later Hb1.out).set1 rfl⟩⟩
      | 2, _ =>
        have ho2 := ho
        simp only [List.getElem?_toArray, List.getElem?_cons_succ, List.getElem?_cons_zero, Option.some.injEq] at ho2
        subst ho2
        have HR := Lib.hid hR
        clear hR
        have hf9 : (L.setIfInBounds 2 true).getD 19 false = false := by rw [getD_set_other (by decide)]; exact h19
        refine wpOp_of_list ho ?_ hno
        go_wp2_with fail
        exact ⟨_, _, _, _, _, _, _, _, _, _, _, _, _, _, _, _, _, _, _, rfl, .inl ⟨hf9, HR.out.set2 rfl⟩⟩
      | 3, _ =>
        have ho2 := ho
        simp only [List.getElem?_toArray, List.getElem?_cons_succ, List.getElem?_cons_zero, Option.some.injEq] at ho2
        subst ho2
        have d0 : L.getD 0 false = true := hall { on := 0, ground := .data } (by simp) rfl
        have d1 : L.getD 1 false = true := hall { on := 1, ground := .data } (by simp) rfl
        have d2 : L.getD 2 false = true := hall { on := 2, ground := .data } (by simp) rfl
        obtain rfl := hR.x0 d0
        obtain rfl := hR.x1 d1
        obtain rfl := hR.x2 d2
        have HR := Lib.hid hR
        clear hR
        have hf9 : (L.setIfInBounds 3 true).getD 19 false = false := by rw [getD_set_other (by decide)]; exact h19
        refine wpOp_of_list ho ?_ hno
        go_wp2_with fail
        exact ⟨_, _, _, _, _, _, _, _, _, _, _, _, _, _, _, _, _, _, _, rfl, .inl ⟨hf9, (HR.out.later ((Below.refl _ _).alloc (Nat.le_refl _) _)).set3 (SL.mk' (cs := k0) HR.out.size)⟩⟩
      | 4, _ =>
        have ho2 := ho
        simp only [List.getElem?_toArray, List.getElem?_cons_succ, List.getElem?_cons_zero, Option.some.injEq] at ho2
        subst ho2
        have d3 : L.getD 3 false = true := hall { on := 3, ground := .data } (by simp) rfl
        obtain ⟨g3, rfl, s3⟩ := hR.x3 d3
        have S3 := Lib.hid s3; clear s3
        have HR := Lib.hid hR
        clear hR
        have hf9 : (L.setIfInBounds 4 true).getD 19 false = false := by rw [getD_set_other (by decide)]; exact h19
        refine wpOp_of_list ho ?_ hno
        go_wp2_with fail
        exact ⟨_, _, _, _, _, _, _, _, _, _, _, _, _, _, _, _, _, _, _, rfl, .inl ⟨hf9, HR.out.set4 ⟨_, rfl, S3.out⟩⟩⟩
      | 5, _ =>
        have ho2 := ho
        simp only [List.getElem?_toArray, List.getElem?_cons_succ, List.getElem?_cons_zero, Option.some.injEq] at ho2
        subst ho2
        obtain ⟨c0, c1, c2, c3, c4⟩ := hR.call
        have HR := Lib.hid hR
        clear hR
        have hf9 : (L.setIfInBounds 5 true).getD 19 false = false := by rw [getD_set_other (by decide)]; exact h19
        refine wpOp_of_list ho ?_ hno
        go_wp2_with fail
        exact ⟨_, _, _, _, _, _, _, _, _, _, _, _, _, _, _, _, _, _, _, rfl, .inl ⟨hf9, HR.out.set5 rfl⟩⟩
      | 6, _ =>
        have ho2 := ho
        simp only [List.getElem?_toArray, List.getElem?_cons_succ, List.getElem?_cons_zero, Option.some.injEq] at ho2
        subst ho2
        have HR := Lib.hid hR
        clear hR
        have hf9 : (L.setIfInBounds 6 true).getD 19 false = false := by rw [getD_set_other (by decide)]; exact h19
        refine wpOp_of_list ho ?_ hno
        go_wp2_with fail
        exact ⟨_, _, _, _, _, _, _, _, _, _, _, _, _, _, _, _, _, _, _, rfl, .inl ⟨hf9, HR.out.set6 rfl⟩⟩
      | 7, _ =>
        have ho2 := ho
        simp only [List.getElem?_toArray, List.getElem?_cons_succ, List.getElem?_cons_zero, Option.some.injEq] at ho2
        subst ho2
        have d5 : L.getD 5 false = true := hall { on := 5, ground := .data } (by simp) rfl
        have d6 : L.getD 6 false = true := hall { on := 6, ground := .data } (by simp) rfl
        obtain rfl := hR.x5 d5
        obtain rfl := hR.x6 d6
        have HR := Lib.hid hR
        clear hR
        have hf9 : (L.setIfInBounds 7 true).getD 19 false = false := by rw [getD_set_other (by decide)]; exact h19
        refine wpOp_of_list ho ?_ hno
        go_wp2_with fail
        exact ⟨_, _, _, _, _, _, _, _, _, _, _, _, _, _, _, _, _, _, _, rfl, .inl ⟨hf9, (HR.out.later ((Below.refl _ _).alloc (Nat.le_refl _) _)).set7 (SL.mk' (cs := k1) HR.out.size)⟩⟩
      | 8, _ =>
        have ho2 := ho
        simp only [List.getElem?_toArray, List.getElem?_cons_succ, List.getElem?_cons_zero, Option.some.injEq] at ho2
        subst ho2
        have d7 : L.getD 7 false = true := hall { on := 7, ground := .data } (by simp) rfl
        obtain ⟨g7, rfl, s7⟩ := hR.x7 d7
        have S7 := Lib.hid s7; clear s7
        have HR := Lib.hid hR
        clear hR
        have hf9 : (L.setIfInBounds 8 true).getD 19 false = false := by rw [getD_set_other (by decide)]; exact h19
        refine wpOp_of_list ho ?_ hno
        go_wp2_with fail
        exact ⟨_, _, _, _, _, _, _, _, _, _, _, _, _, _, _, _, _, _, _, rfl, .inl ⟨hf9, HR.out.set8 ⟨_, rfl, S7.out⟩⟩⟩
      | 9, _ =>
        have ho2 := ho
        simp only [List.getElem?_toArray, List.getElem?_cons_succ, List.getElem?_cons_zero, Option.some.injEq] at ho2
        subst ho2
        have HR := Lib.hid hR
        clear hR
        have hf9 : (L.setIfInBounds 9 true).getD 19 false = false := by rw [getD_set_other (by decide)]; exact h19
        refine wpOp_of_list ho ?_ hno
        go_wp2_with fail
        exact ⟨_, _, _, _, _, _, _, _, _, _, _, _, _, _, _, _, _, _, _, rfl, .inl ⟨hf9, HR.out.set9 rfl⟩⟩
      | 10, _ =>
        have ho2 := ho
        simp only [List.getElem?_toArray, List.getElem?_cons_succ, List.getElem?_cons_zero, Option.some.injEq] at ho2
        subst ho2
        have d9 : L.getD 9 false = true := hall { on := 9, ground := .data } (by simp) rfl
        obtain rfl := hR.x9 d9
        have HR := Lib.hid hR
        clear hR
        have hf9 : (L.setIfInBounds 10 true).getD 19 false = false := by rw [getD_set_other (by decide)]; exact h19
        refine wpOp_of_list ho ?_ hno
        go_wp2_with fail
        exact ⟨_, _, _, _, _, _, _, _, _, _, _, _, _, _, _, _, _, _, _, rfl, .inl ⟨hf9, (HR.out.later ((Below.refl _ _).alloc (Nat.le_refl _) _)).set10 (SL.mk' (cs := k2) HR.out.size)⟩⟩
      | 11, _ =>
        have ho2 := ho
        simp only [List.getElem?_toArray, List.getElem?_cons_succ, List.getElem?_cons_zero, Option.some.injEq] at ho2
        subst ho2
        have d10 : L.getD 10 false = true := hall { on := 10, ground := .data } (by simp) rfl
        obtain ⟨g10, rfl, s10⟩ := hR.x10 d10
        have S10 := Lib.hid s10; clear s10
        have HR := Lib.hid hR
        clear hR
        have hf9 : (L.setIfInBounds 11 true).getD 19 false = false := by rw [getD_set_other (by decide)]; exact h19
        refine wpOp_of_list ho ?_ hno
        go_wp2_with fail
        exact ⟨_, _, _, _, _, _, _, _, _, _, _, _, _, _, _, _, _, _, _, rfl, .inl ⟨hf9, HR.out.set11 ⟨_, rfl, S10.out⟩⟩⟩
      | 12, _ =>
        have ho2 := ho
        simp only [List.getElem?_toArray, List.getElem?_cons_succ, List.getElem?_cons_zero, Option.some.injEq] at ho2
        subst ho2
        have HR := Lib.hid hR
        clear hR
        have hf9 : (L.setIfInBounds 12 true).getD 19 false = false := by rw [getD_set_other (by decide)]; exact h19
        refine wpOp_of_list ho ?_ hno
        go_wp2_with fail
        exact ⟨_, _, _, _, _, _, _, _, _, _, _, _, _, _, _, _, _, _, _, rfl, .inl ⟨hf9, HR.out.set12 rfl⟩⟩
      | 13, _ =>
        have ho2 := ho
        simp only [List.getElem?_toArray, List.getElem?_cons_succ, List.getElem?_cons_zero, Option.some.injEq] at ho2
        subst ho2
        obtain ⟨c0, c1, c2, c3, c4⟩ := hR.call
        have HR := Lib.hid hR
        clear hR
        have hf9 : (L.setIfInBounds 13 true).getD 19 false = false := by rw [getD_set_other (by decide)]; exact h19
        refine wpOp_of_list ho ?_ hno
        go_wp2_with fail
        exact ⟨_, _, _, _, _, _, _, _, _, _, _, _, _, _, _, _, _, _, _, rfl, .inl ⟨hf9, HR.out.set13 rfl⟩⟩
      | 14, _ =>
        have ho2 := ho
        simp only [List.getElem?_toArray, List.getElem?_cons_succ, List.getElem?_cons_zero, Option.some.injEq] at ho2
        subst ho2
        have d12 : L.getD 12 false = true := hall { on := 12, ground := .data } (by simp) rfl
        have d13 : L.getD 13 false = true := hall { on := 13, ground := .data } (by simp) rfl
        obtain rfl := hR.x12 d12
        obtain rfl := hR.x13 d13
        have HR := Lib.hid hR
        clear hR
        have hf9 : (L.setIfInBounds 14 true).getD 19 false = false := by rw [getD_set_other (by decide)]; exact h19
        refine wpOp_of_list ho ?_ hno
        go_wp2_with fail
        exact ⟨_, _, _, _, _, _, _, _, _, _, _, _, _, _, _, _, _, _, _, rfl, .inl ⟨hf9, (HR.out.later ((Below.refl _ _).alloc (Nat.le_refl _) _)).set14 (SL.mk' (cs := k3) HR.out.size)⟩⟩
      | 15, _ =>
        have ho2 := ho
        simp only [List.getElem?_toArray, List.getElem?_cons_succ, List.getElem?_cons_zero, Option.some.injEq] at ho2
        subst ho2
        have d14 : L.getD 14 false = true := hall { on := 14, ground := .data } (by simp) rfl
        obtain ⟨g14, rfl, s14⟩ := hR.x14 d14
        have S14 := Lib.hid s14; clear s14
        have HR := Lib.hid hR
        clear hR
        have hf9 : (L.setIfInBounds 15 true).getD 19 false = false := by rw [getD_set_other (by decide)]; exact h19
        refine wpOp_of_list ho ?_ hno
        go_wp2_with fail
        exact ⟨_, _, _, _, _, _, _, _, _, _, _, _, _, _, _, _, _, _, _, rfl, .inl ⟨hf9, HR.out.set15 ⟨_, rfl, S14.out⟩⟩⟩
      | 16, _ =>
        have ho2 := ho
        simp only [List.getElem?_toArray, List.getElem?_cons_succ, List.getElem?_cons_zero, Option.some.injEq] at ho2
        subst ho2
        have d4 : L.getD 4 false = true := hall { on := 4, ground := .data } (by simp) rfl
        have d8 : L.getD 8 false = true := hall { on := 8, ground := .data } (by simp) rfl
        have d11 : L.getD 11 false = true := hall { on := 11, ground := .data } (by simp) rfl
        have d15 : L.getD 15 false = true := hall { on := 15, ground := .data } (by simp) rfl
        obtain ⟨g4, rfl, s4⟩ := hR.x4 d4
        have S4 := Lib.hid s4; clear s4
        obtain ⟨g8, rfl, s8⟩ := hR.x8 d8
        have S8 := Lib.hid s8; clear s8
        obtain ⟨g11, rfl, s11⟩ := hR.x11 d11
        have S11 := Lib.hid s11; clear s11
        obtain ⟨g15, rfl, s15⟩ := hR.x15 d15
        have S15 := Lib.hid s15; clear s15
        have HR := Lib.hid hR
        clear hR
        have hf9 : (L.setIfInBounds 16 true).getD 19 false = false := by rw [getD_set_other (by decide)]; exact h19
        refine wpOp_of_list ho ?_ hno
        go_wp2_with fail
        exact ⟨_, _, _, _, _, _, _, _, _, _, _, _, _, _, _, _, _, _, _, rfl, .inl ⟨hf9, (HR.out.later ((Below.refl _ _).alloc (Nat.le_refl _) _)).set16 (FS.mk' HR.out.size S4.out S8.out S11.out S15.out)⟩⟩
      | 17, _ =>
        have ho2 := ho
        simp only [List.getElem?_toArray, List.getElem?_cons_succ, List.getElem?_cons_zero, Option.some.injEq] at ho2
        subst ho2
        have d16 : L.getD 16 false = true := hall { on := 16, ground := .data } (by simp) rfl
        obtain ⟨g, g0, g1, g2, g3, rfl, s16⟩ := hR.x16 d16
        have S16 := Lib.hid s16; clear s16
        have HR := Lib.hid hR
        clear hR
        have hf9 : (L.setIfInBounds 17 true).getD 19 false = false := by rw [getD_set_other (by decide)]; exact h19
        refine wpOp_of_list ho ?_ hno
        go_wp2_with fail
        exact ⟨_, _, _, _, _, _, _, _, _, _, _, _, _, _, _, _, _, _, _, rfl, .inl ⟨hf9, HR.out.set17 ⟨_, _, _, _, _, rfl, S16.out⟩⟩⟩
      | 18, _ =>
        have ho2 := ho
        simp only [List.getElem?_toArray, List.getElem?_cons_succ, List.getElem?_cons_zero, Option.some.injEq] at ho2
        subst ho2
        have HR := Lib.hid hR
        clear hR
        have hf9 : (L.setIfInBounds 18 true).getD 19 false = false := by rw [getD_set_other (by decide)]; exact h19
        refine wpOp_of_list ho ?_ hno
        go_wp2_with fail
        exact ⟨_, _, _, _, _, _, _, _, _, _, _, _, _, _, _, _, _, _, _, rfl, .inl ⟨hf9, (HR.out.later ((Below.refl _ _).alloc (Nat.le_refl _) _)).set18 (MB.mk' HR.out.size)⟩⟩
      | 19, _ =>
        have ho2 := ho
        simp only [List.getElem?_toArray, List.getElem?_cons_succ, List.getElem?_cons_zero, Option.some.injEq] at ho2
        subst ho2
        have HR := Lib.hid hR
        clear hR
        have d0 : L.getD 0 false = true := hall { on := 0, ground := .phase } (by simp) rfl
        have d1 : L.getD 1 false = true := hall { on := 1, ground := .phase } (by simp) rfl
        have d2 : L.getD 2 false = true := hall { on := 2, ground := .phase } (by simp) rfl
        have d3 : L.getD 3 false = true := hall { on := 3, ground := .phase } (by simp) rfl
        have d4 : L.getD 4 false = true := hall { on := 4, ground := .phase } (by simp) rfl
        have d5 : L.getD 5 false = true := hall { on := 5, ground := .phase } (by simp) rfl
        have d6 : L.getD 6 false = true := hall { on := 6, ground := .phase } (by simp) rfl
        have d7 : L.getD 7 false = true := hall { on := 7, ground := .phase } (by simp) rfl
        have d8 : L.getD 8 false = true := hall { on := 8, ground := .phase } (by simp) rfl
        have d9 : L.getD 9 false = true := hall { on := 9, ground := .phase } (by simp) rfl
        have d10 : L.getD 10 false = true := hall { on := 10, ground := .phase } (by simp) rfl
        have d11 : L.getD 11 false = true := hall { on := 11, ground := .phase } (by simp) rfl
        have d12 : L.getD 12 false = true := hall { on := 12, ground := .phase } (by simp) rfl
        have d13 : L.getD 13 false = true := hall { on := 13, ground := .phase } (by simp) rfl
        have d14 : L.getD 14 false = true := hall { on := 14, ground := .phase } (by simp) rfl
        have d15 : L.getD 15 false = true := hall { on := 15, ground := .phase } (by simp) rfl
        have d16 : L.getD 16 false = true := hall { on := 16, ground := .phase } (by simp) rfl
        have d17 : L.getD 17 false = true := hall { on := 17, ground := .phase } (by simp) rfl
        have d18 : L.getD 18 false = true := hall { on := 18, ground := .phase } (by simp) rfl
        have hL : ∀ k, k < 20 → (L.setIfInBounds 19 true).getD k false = true := fun k hk => by
          match k, hk with
          | 0, _ => rw [getD_set_other (by decide)]; exact d0
          | 1, _ => rw [getD_set_other (by decide)]; exact d1
          | 2, _ => rw [getD_set_other (by decide)]; exact d2
          | 3, _ => rw [getD_set_other (by decide)]; exact d3
          | 4, _ => rw [getD_set_other (by decide)]; exact d4
          | 5, _ => rw [getD_set_other (by decide)]; exact d5
          | 6, _ => rw [getD_set_other (by decide)]; exact d6
          | 7, _ => rw [getD_set_other (by decide)]; exact d7
          | 8, _ => rw [getD_set_other (by decide)]; exact d8
          | 9, _ => rw [getD_set_other (by decide)]; exact d9
          | 10, _ => rw [getD_set_other (by decide)]; exact d10
          | 11, _ => rw [getD_set_other (by decide)]; exact d11
          | 12, _ => rw [getD_set_other (by decide)]; exact d12
          | 13, _ => rw [getD_set_other (by decide)]; exact d13
          | 14, _ => rw [getD_set_other (by decide)]; exact d14
          | 15, _ => rw [getD_set_other (by decide)]; exact d15
          | 16, _ => rw [getD_set_other (by decide)]; exact d16
          | 17, _ => rw [getD_set_other (by decide)]; exact d17
          | 18, _ => rw [getD_set_other (by decide)]; exact d18
          | 19, _ => rw [Array.getD_eq_getD_getElem?, Array.getElem?_setIfInBounds_self_of_lt (by rw [hs]; exact hlt3)]; rfl
          | k + 20, h => exact absurd h (by omega)
        obtain ⟨m, rfl, hm⟩ := HR.out.x18 d18
        obtain ⟨g, g0, g1, g2, g3, rfl, sM⟩ := HR.out.x17 d17
        have SM := Lib.hid sM; clear sM
        obtain ⟨n0, n1, z0, z1⟩ := hm.cells
        have Hm := Lib.hid hm; clear hm
        refine wpOp_of_list ho ?_ hno
        go_wp2_with fail
        exact ⟨_, _, _, _, _, _, _, _, _, _, _, _, _, _, _, _, _, _, _, rfl, .inr ⟨hL, MD.mk' Hm.out SM.out, (HR.out.below.setCell Hm.out.1 _).setCell Hm.out.1 _⟩⟩
    · exfalso
      have := hfull i hlt
      have hl : i < L.size := by omega
      rw [Array.getD_eq_getD_getElem?, Array.getElem?_eq_getElem hl] at this hLi
      simp at this hLi
      rw [this] at hLi; cases hLi
  · intro L a w' hs hI hr
    have hall := all_listed hs (by kernel_rfl) hr
    obtain ⟨v2, v9, v10, v11, v12, v13, v14, v15, v16, v17, v18, v19, v20, v21, v22, v23, v24, v25, v26, rfl, hI⟩ := hI
    rcases hI with ⟨h19, _⟩ | ⟨_, hM, hb⟩
    · have := hall 19 (by decide)
      rw [h19] at this; cases this
    · obtain ⟨m, g, g0, g1, g2, g3, rfl, hm, hmc, hfs⟩ := hM
      have hbw : Below w.heap.size w w' := by
        have h0 := Hc.out
        have h1 : Below w.heap.size w W0 := by rw [HW0.out]; exact (hb1.alloc hb1.size _).drew
        exact h1.trans (hb.mono (by have := hb1.size; omega))
      have hSM : SM w w' m g g0 g1 g2 g3 := ⟨by have := hb1.size; have := Hc.out; omega, hmc, hfs.mono (by have := hb1.size; have := Hc.out; omega), hbw⟩
      obtain ⟨n0, n1, nm⟩ := hSM.box
      have HM := Lib.hid hSM
      clear hm hmc hfs hb hall hr hs hbw hSM hb1
      show _
      go_wp2_with fail
      refine (order_any _ _ (smp g0 g1 g2 g3) _ HM.out.funcs (Hw.out.next HM.out.below)).mono ?_
      rintro e w2 ⟨v2, l, E, f, a, rfl, hv2, hO, hb2⟩
      obtain ⟨rfl, rfl, rfl, rfl⟩ := hO.unique (smp_order g0 g1 g2 g3)
      have HM2 := Lib.hid (HM.out.later hb2)
      have Hv2 := Lib.hid hv2
      have heq := eq_fault
      clear hv2 hO hb2 n0 n1 nm HM
      have hI3 : IntsIn ((w2.alloc (.cells #[.int .i64 0, .int .i64 0, .int .i64 0] 35)).alloc (.cells #[.int .i64 2, .int .i64 1, .int .i64 0, .int .i64 3] 3)) v2 [2, 1, 0, 3] :=
        SliceIn.later (SliceIn.of_owns Hv2.out) (((Below.refl w2.heap.size _).alloc (Nat.le_refl _) _).alloc (by simp) _)
      have hL3 : IntsIn ((w2.alloc (.cells #[.int .i64 0, .int .i64 0, .int .i64 0] 35)).alloc (.cells #[.int .i64 2, .int .i64 1, .int .i64 0, .int .i64 3] 3)) (.slice (some ⟨w2.heap.size + 1, 0, none⟩) 4 4) [2, 1, 0, 3] := by
        have := sliceIn_new (w2.alloc (.cells #[.int .i64 0, .int .i64 0, .int .i64 0] 35)) (intVs [2, 1, 0, 3]) 4 1 3 rfl (by decide)
        rw [World.size_alloc] at this
        exact this
      have hf3 : ∀ j u, (#[Value.int .i64 0, .int .i64 0, .int .i64 0] : Array Value)[j]? = some u → ((w2.alloc (.cells #[.int .i64 0, .int .i64 0, .int .i64 0] 35)).alloc (.cells #[.int .i64 2, .int .i64 1, .int .i64 0, .int .i64 3] 3)).cell? ⟨w2.heap.size, j, none⟩ = some u := fun j u hu => by
        rw [World.cell?_alloc_past _ _ _ (by simp), World.cell?_alloc_at _ _ _ _ rfl]; exact hu
      have hM3 := HM2.out.later (((Below.refl w2.heap.size _).alloc (Nat.le_refl _) (.cells #[.int .i64 0, .int .i64 0, .int .i64 0] 35)).alloc (by simp) (.cells #[.int .i64 2, .int .i64 1, .int .i64 0, .int .i64 3] 3))
      have H3 := Lib.hid (And.intro hI3 (And.intro hL3 (And.intro hf3 hM3)))
      clear hI3 hL3 hf3 hM3
      go_wp2_with fail
      refine (sameInts15_true _ _ [2, 1, 0, 3] _ H3.out.1 H3.out.2.1 (by decide)).mono ?_
      rintro e w3' ⟨rfl, q3, rfl⟩
      obtain ⟨w3, hw3⟩ : ∃ w3 : World, w3 = ((w2.alloc (.cells #[.int .i64 0, .int .i64 0, .int .i64 0] 35)).alloc (.cells #[.int .i64 2, .int .i64 1, .int .i64 0, .int .i64 3] 3)).drewN q3 := ⟨_, rfl⟩
      rw [← hw3]
      have hM3 : SM w w3 m g g0 g1 g2 g3 := by rw [hw3]; exact H3.out.2.2.2.later (below_draws _ _)
      have hf3 : ∀ j u, (#[Value.int .i64 0, .int .i64 0, .int .i64 0] : Array Value)[j]? = some u → w3.cell? ⟨w2.heap.size, j, none⟩ = some u := fun j u hu => by
        rw [hw3]; exact ((below_draws _ q3).cell (p := ⟨w2.heap.size, j, none⟩) (by show w2.heap.size < _; simp only [World.size_alloc]; omega)).trans (H3.out.2.2.1 j u hu)
      have y0 := hf3 0 _ rfl
      have y1 := hf3 1 _ rfl
      have y2 := hf3 2 _ rfl
      obtain ⟨n0, n1, nm⟩ := hM3.box
      have HM3 := Lib.hid hM3
      clear hM3 hf3 hw3 H3 HM2 Hv2
      go_wp2_with fail
      refine (of_any _ _ (smp g0 g1 g2 g3) 0 _ HM3.out.funcs (Hw.out.next HM3.out.below)).mono ?_
      rintro e w4 ⟨v4, rfl, hv4, hb4⟩
      rw [smp_of0] at hv4
      have hI4 : IntsIn (w4.alloc (.cells #[.int .i64 1, .int .i64 2] 3)) v4 [1, 2] := SliceIn.later (SliceIn.of_owns hv4) ((Below.refl w4.heap.size _).alloc (Nat.le_refl _) _)
      have hL4 : IntsIn (w4.alloc (.cells #[.int .i64 1, .int .i64 2] 3)) (.slice (some ⟨w4.heap.size, 0, none⟩) 2 2) [1, 2] := sliceIn_new w4 (intVs [1, 2]) 2 1 3 rfl (by decide)
      have hM4 := (HM3.out.later hb4).later ((Below.refl w4.heap.size _).alloc (Nat.le_refl _) (.cells #[.int .i64 1, .int .i64 2] 3))
      have H4 := Lib.hid (And.intro hI4 (And.intro hL4 hM4))
      clear hI4 hL4 hM4 hv4 hb4 n0 n1 nm y0 y1 y2 HM3
      go_wp2_with fail
      refine (sameInts15_true _ _ [1, 2] _ H4.out.1 H4.out.2.1 (by decide)).mono ?_
      rintro e w5' ⟨rfl, q5, rfl⟩
      obtain ⟨w5, hw5⟩ : ∃ w5 : World, w5 = (w4.alloc (.cells #[.int .i64 1, .int .i64 2] 3)).drewN q5 := ⟨_, rfl⟩
      rw [← hw5]
      have hM5 : SM w w5 m g g0 g1 g2 g3 := by rw [hw5]; exact H4.out.2.2.later (below_draws _ _)
      obtain ⟨n0, n1, nm⟩ := hM5.box
      have HM5 := Lib.hid hM5
      clear hM5 hw5 H4
      go_wp2_with fail
      refine (of_any _ _ (smp g0 g1 g2 g3) 3 _ HM5.out.funcs (Hw.out.next HM5.out.below)).mono ?_
      rintro e w6 ⟨v6, rfl, hv6, hb6⟩
      rw [smp_of3] at hv6
      have hM6 := HM5.out.later hb6
      have hform : v6 = .slice none 0 0 ∨ ∃ g c, v6 = .slice (some ⟨g, 0, none⟩) 0 c := by
        rcases OwnInts.form hv6 with ⟨h, _⟩ | ⟨g, c, h, _⟩
        · exact .inl h
        · exact .inr ⟨g, c, h⟩
      have HM6 := Lib.hid hM6
      clear hM6 hv6 hb6 n0 n1 nm HM5
      obtain ⟨a6, c6, rfl⟩ : ∃ a c, v6 = .slice a 0 c := by
        rcases hform with h | ⟨g, c, h⟩
        · exact ⟨_, _, h⟩
        · exact ⟨_, _, h⟩
      clear hform
      go_wp2_with fail
      obtain ⟨n0, n1, nm⟩ := HM6.out.box
      have hgs : g < w6.heap.size := (Array.getElem?_eq_some_iff.1 HM6.out.fs.fs).1
      have hcell : w6.cell? ⟨g, 14, none⟩ = some (.slice (some ⟨g2, 0, none⟩) 1 1) := by rw [cell_of_row w6 g 14 _ _ (0, 0) HM6.out.fs.fs]; rfl
      have hfz : w6.frozen? ⟨g, 14, none⟩ = false := by simp [World.frozen?, HM6.out.fs.fs]
      have hmg : m ≠ g := fun e => by have h1 := HM6.out.hm; have h2 := HM6.out.fs.fs; rw [e] at h1; have := h1.symm.trans h2; simp at this
      have hgm : g ≠ m := fun e => hmg e.symm
      have hk14 : ∀ u, (w6.setCell ⟨g, 14, none⟩ u).cell? ⟨m, 1, none⟩ = some (.slice (some ⟨g, 0, none⟩) 4 4) := fun u => by rw [World.cell?_setCell_other _ _ _ _ (fun e => hgm (congrArg Addr.block e))]; exact n1
      go_region_held3 (fun w' => w'.cell? ⟨m, 1, none⟩ = some (.slice (some ⟨g, 0, none⟩) 4 4)) (go_keep) (first | (go_at_call 19; refine (func0_at 1 _).mono ?_; rintro e w' ⟨rfl, rfl⟩))
      obtain ⟨n, hn⟩ : ∃ n, n = w6.heap.size + 1 := ⟨_, rfl⟩
      rw [← hn]
      obtain ⟨W7, hW7⟩ : ∃ W7 : World, W7 = (((w6.setCell ⟨g, 14, none⟩ (.slice (some ⟨n, 0, none⟩) 2 2)).alloc (.cells #[.int .i64 19, .int .i64 0, .int .i64 0, .int .i64 0, .int .i64 1] 44)).alloc
        (.cells #[.int .i64 19, .int .i64 0, .int .i64 0, .int .i64 0, .int .i64 1, .int .i64 0, .int .i64 0, .int .i64 0, .int .i64 0, .int .i64 0] 44)).drew := ⟨_, rfl⟩
      rw [← hW7]
      obtain ⟨hF7, p0, p1, hb7⟩ := HM6.out.turn n hn W7 hW7
      have H7 := Lib.hid (And.intro hF7 (And.intro hb7 (Hw.out.next hb7)))
      clear hF7 hb7 hW7 hn HM6 n0 n1 nm hgs hcell hfz hmg hgm hk14
      go_wp2_with fail
      refine (order_any _ _ (smpK k4 2 g0 g1 n g3) _ H7.out.1 H7.out.2.2).mono ?_
      rintro e w8 ⟨v8, l, E, f, a, rfl, hv8, hO, hb8⟩
      obtain ⟨rfl, rfl, rfl, rfl⟩ := hO.unique (smp_ring g0 g1 n g3)
      have hb8' : Below w.heap.size w w8 := H7.out.2.1.trans (hb8.mono H7.out.2.1.size)
      have hform : ∃ a c, v8 = .slice a 0 c := by
        rcases OwnInts.form hv8 with ⟨h, _⟩ | ⟨g, c, h, _⟩
        · exact ⟨_, _, h⟩
        · exact ⟨_, _, h⟩
      obtain ⟨a8, c8, rfl⟩ := hform
      have H8 := Lib.hid hb8'
      clear hv8 hO hb8 hb8' p0 p1
      go_wp2_with fail
      go_ret
      exact ⟨rfl, H8.out.alloc H8.out.size _⟩
  · refine ⟨undef, undef, undef, undef, undef, undef, undef, undef, undef, undef, undef, undef, undef, undef, undef, undef, undef, undef, undef, rfl, .inl ⟨by decide, ?_⟩⟩
    have h0 : ∀ k, (Array.replicate 20 false).getD k false = true → False := fun k hk => by
      rw [Array.getD_eq_getD_getElem?, Array.getElem?_replicate] at hk
      split at hk <;> simp at hk
    have e : ∀ j u, (#[Value.int .i64 19, .int .i64 0, .int .i64 0, .int .i64 0, .int .i64 2] : Array Value)[j]? = some u → W0.cell? ⟨c, j, none⟩ = some u := fun j u hu => by
      rw [HW0.out, Hc.out]
      show World.cell? (World.alloc _ _) _ = _
      rw [World.cell?_alloc_at _ _ _ _ rfl]; exact hu
    have hsz : W0.heap.size = c + 1 := by rw [HW0.out, Hc.out]; show (World.alloc _ _).heap.size = _; simp
    exact ⟨Below.refl _ _, by omega, by omega, ⟨e 0 _ rfl, e 1 _ rfl, e 2 _ rfl, e 3 _ rfl, e 4 _ rfl⟩, fun h => (h0 0 h).elim, fun h => (h0 1 h).elim, fun h => (h0 2 h).elim, fun h => (h0 3 h).elim, fun h => (h0 4 h).elim, fun h => (h0 5 h).elim, fun h => (h0 6 h).elim, fun h => (h0 7 h).elim, fun h => (h0 8 h).elim, fun h => (h0 9 h).elim, fun h => (h0 10 h).elim, fun h => (h0 11 h).elim, fun h => (h0 12 h).elim, fun h => (h0 13 h).elim, fun h => (h0 14 h).elim, fun h => (h0 15 h).elim, fun h => (h0 16 h).elim, fun h => (h0 17 h).elim, fun h => (h0 18 h).elim⟩
end Go.Proofs.YtggkeodoenhmoaaDoor
