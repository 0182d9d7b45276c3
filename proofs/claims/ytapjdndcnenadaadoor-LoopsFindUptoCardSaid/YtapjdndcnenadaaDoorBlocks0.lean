/- flow.Blocks: what stands in memory; the plain side. -/
import Derived.Test.YtapjdndcnenadaaDoorEdges
import Derived.Test.YtapjdndcnenadaaDoorRegion
namespace Go.Proofs.YtapjdndcnenadaaDoor
open Go.RowKit Go.Shelf
attribute [local go_sem] Oper.semAt_some
theorem wide_fn (f : FuncId) : Fence.wide.fn f = True := rfl
attribute [local go_sem] wide_fn

def intoAt (l : List Int) (es : List Edge) : List Int := es.foldl (fun l e => l.set e.2.toNat (l.getD e.2.toNat 0 + 1)) l
def quietOne (code : List Ins) (e : Edge) : Bool := decide (e.1 = e.2 - 1) && decide ((nextL code e.1).length = 1)
def quietAt (code : List Ins) (l : List Bool) (es : List Edge) : List Bool := es.foldl (fun l e => l.set e.2.toNat (l.getD e.2.toNat false || quietOne code e)) l

theorem intoAt_snoc (l : List Int) (es : List Edge) (e : Edge) : intoAt l (es ++ [e]) = (intoAt l es).set e.2.toNat ((intoAt l es).getD e.2.toNat 0 + 1) := by simp [intoAt]
theorem quietAt_snoc (code : List Ins) (l : List Bool) (es : List Edge) (e : Edge) : quietAt code l (es ++ [e]) = (quietAt code l es).set e.2.toNat ((quietAt code l es).getD e.2.toNat false || quietOne code e) := by simp [quietAt]
theorem snoc_ind {α : Type} {p : List α → Prop} (h0 : p []) (hs : ∀ l x, p l → p (l ++ [x])) (l : List α) : p l := by
  have : ∀ n, ∀ l : List α, l.length = n → p l := by
    intro n
    induction n with
    | zero => intro l hl; rw [List.eq_nil_of_length_eq_zero hl]; exact h0
    | succ n ih =>
      intro l hl
      rcases snoc_cases l with rfl | ⟨t, x, rfl⟩
      · simp at hl
      · exact hs t x (ih t (by simpa using hl))
  exact this _ l rfl
theorem intoAt_length (l : List Int) (es : List Edge) : (intoAt l es).length = l.length := by
  induction es using snoc_ind with
  | h0 => rfl
  | hs es e ih => rw [intoAt_snoc, List.length_set, ih]
theorem quietAt_length (code : List Ins) (l : List Bool) (es : List Edge) : (quietAt code l es).length = l.length := by
  induction es using snoc_ind with
  | h0 => rfl
  | hs es e ih => rw [quietAt_snoc, List.length_set, ih]
theorem getD_set_any {α : Type} (l : List α) (i j : Nat) (x d : α) : (l.set i x).getD j d = if j = i ∧ i < l.length then x else l.getD j d := by
  by_cases hi : i < l.length
  · rw [getD_set _ _ _ _ _ hi]; simp [hi]
  · rw [List.set_eq_of_length_le (by omega)]; simp [hi]
theorem intoAt_bound (n : Nat) (es : List Edge) (i : Nat) : 0 ≤ (intoAt (List.replicate n 0) es).getD i 0 ∧ (intoAt (List.replicate n 0) es).getD i 0 ≤ es.length := by
  induction es using snoc_ind generalizing i with
  | h0 => simp [intoAt, List.getD, List.getElem?_replicate]; split <;> simp
  | hs es e ih =>
    rw [intoAt_snoc, getD_set_any]
    have h1 := ih i
    have h2 := ih e.2.toNat
    split <;> simp only [List.length_append, List.length_singleton] <;> omega

def blockAt (into : List Int) (quiet can : List Bool) (k : Nat) : Bool := can.getD k false && (((k : Int) == 0) || (into.getD k 0 != 1 || !quiet.getD k false))
def blocksTo (into : List Int) (quiet can : List Bool) : Nat → List Int
  | 0 => []
  | k + 1 => blocksTo into quiet can k ++ if blockAt into quiet can k = true then [(k : Int)] else []
theorem blocksTo_le (into : List Int) (quiet can : List Bool) (k : Nat) : (blocksTo into quiet can k).length ≤ k := by
  induction k with
  | zero => exact Nat.le_refl _
  | succ k ih => unfold blocksTo; split <;> simp <;> omega
noncomputable def blocksL (code : List Ins) : List Int :=
  blocksTo (intoAt (List.replicate code.length 0) (edgesL code)) (quietAt code (List.replicate code.length false) (edgesL code)) (reachL code (-1)) (reachL code (-1)).length

/-- What the loop over the edges leaves: the two lists, their boxes, the function. -/
structure BI (w W : World) (len : Nat) (s : ByteArray) (vp : Value) (regs words : Int) (vc : Value) (into : List Int) (quiet : List Bool) : Prop where
  into : OwnInts W (w.heap.size + 1) (.slice (some ⟨w.heap.size + 1, 0, none⟩) len len) into
  quiet : OwnBools W (w.heap.size + 1) (.slice (some ⟨w.heap.size + 1 + 1 + 1, 0, none⟩) len len) quiet
  bi : W.cell? ⟨w.heap.size + 1 + 1, 0, none⟩ = some (.slice (some ⟨w.heap.size + 1, 0, none⟩) len len)
  bq : W.cell? ⟨w.heap.size + 1 + 1 + 1 + 1, 0, none⟩ = some (.slice (some ⟨w.heap.size + 1 + 1 + 1, 0, none⟩) len len)
  fn : FnAt W w.heap.size s vp regs words vc
  below : Below w.heap.size w W
  size : w.heap.size + 6 ≤ W.heap.size

theorem BI.turn {w W W' : World} {row : Option Nat} {len : Nat} {s : ByteArray} {vp : Value} {regs words : Int} {vc : Value} {into : List Int} {quiet : List Bool} (h : BI w W len s vp regs words vc into quiet) (hg : W.grownBy W' row)
    (hr : ∀ r, row = some r → w.heap.size + 6 ≤ r ∧ ∃ o : Obj, W.heap[r]? = some o ∧ o.isCells = false) : BI w W' len s vp regs words vc into quiet :=
  have hr' : ∀ r, row = some r → ∃ o : Obj, W.heap[r]? = some o ∧ o.isCells = false := fun r e => (hr r e).2
  ⟨ownsRow_turn h.into hg hr', ownsRow_turn h.quiet hg hr', cell_kept h.bi hg hr', cell_kept h.bq hg hr', h.fn.turn hg hr', h.below.grown hg (by have := h.size; omega) (fun k e => by have := (hr k e).1; omega), Nat.le_trans h.size hg.size⟩

abbrev blocksWorld (w : World) (F : Array Value) (len : Nat) : World :=
  (((((w.alloc (.cells F 25)).alloc (.cells (zeroInts len) 3)).alloc (.cells #[.slice (some ⟨w.heap.size + 1, 0, none⟩) len len] 38)).alloc (.cells (zeroBools len) 4)).alloc (.cells #[.slice (some ⟨w.heap.size + 1 + 1 + 1, 0, none⟩) len len] 45)).alloc (.cells F 25)

theorem BI.start (w : World) (len : Nat) (hl : len ≤ 35184372088832) (s : ByteArray) (vp : Value) (regs words : Int) (vc : Value) :
    BI w (blocksWorld w #[.string s, vp, .int .i64 regs, .int .i64 words, vc] len) len s vp regs words vc (List.replicate len 0) (List.replicate len false) := by
  have c : ∀ (W : World) (o : Obj) (k j : Nat) (v : Value), W.cell? ⟨k, j, none⟩ = some v → (W.alloc o).cell? ⟨k, j, none⟩ = some v := fun W o k j v h => (World.cell?_alloc_past _ _ _ (World.block_lt_of_cell? W _ h)).trans h
  refine ⟨?_, ?_, ?_, ?_, ?_, ?_, ?_⟩
  · have := owns_zeroInts (w.alloc (.cells #[.string s, vp, .int .i64 regs, .int .i64 words, vc] 25)) (B := w.heap.size + 1) len (by simp) hl
    rw [World.size_alloc] at this
    exact World.ownsRow.alloc (World.ownsRow.alloc (World.ownsRow.alloc (World.ownsRow.alloc this _) _) _) _
  · have := owns_zeroBools (((w.alloc (.cells #[.string s, vp, .int .i64 regs, .int .i64 words, vc] 25)).alloc (.cells (zeroInts len) 3)).alloc (.cells #[.slice (some ⟨w.heap.size + 1, 0, none⟩) len len] 38)) (B := w.heap.size + 1) len (by (try simp only [World.size_alloc]); (try simp only [size_set]); omega) hl
    simp only [World.size_alloc] at this
    exact World.ownsRow.alloc (World.ownsRow.alloc this _) _
  · refine c _ _ _ _ _ (c _ _ _ _ _ (c _ _ _ _ _ ?_))
    rw [World.cell?_alloc_at _ _ _ _ (by simp)]; rfl
  · refine c _ _ _ _ _ ?_
    rw [World.cell?_alloc_at _ _ _ _ (by simp)]; rfl
  · exact (FnAt.box w s vp regs words vc _).later (((((Below.refl (w.heap.size + 1) _).alloc (by (try simp only [World.size_alloc]); (try simp only [size_set]); omega) _).alloc (by (try simp only [World.size_alloc]); (try simp only [size_set]); omega) _).alloc (by (try simp only [World.size_alloc]); (try simp only [size_set]); omega) _).alloc (by (try simp only [World.size_alloc]); (try simp only [size_set]); omega) _ |>.alloc (by (try simp only [World.size_alloc]); (try simp only [size_set]); omega) _) (Nat.lt_succ_self _)
  · exact (((((Below.refl _ _).alloc (by (try simp only [World.size_alloc]); (try simp only [size_set]); omega) _).alloc (by (try simp only [World.size_alloc]); (try simp only [size_set]); omega) _).alloc (by (try simp only [World.size_alloc]); (try simp only [size_set]); omega) _).alloc (by (try simp only [World.size_alloc]); (try simp only [size_set]); omega) _).alloc (by (try simp only [World.size_alloc]); (try simp only [size_set]); omega) _ |>.alloc (by (try simp only [World.size_alloc]); (try simp only [size_set]); omega) _
  · simp

theorem BI.setInto {w W : World} {len : Nat} {s : ByteArray} {vp : Value} {regs words : Int} {vc : Value} {into : List Int} {quiet : List Bool} (h : BI w W len s vp regs words vc into quiet) (v : Nat) (z : Int) :
    BI w (W.setCell ⟨w.heap.size + 1, v, none⟩ (.int .i64 z)) len s vp regs words vc (into.set v z) quiet :=
  ⟨OwnInts.store h.into v z, ownsRow_setCell_other h.quiet (by simp [Value.ownBlock]; omega) _, (World.cell?_setCell_other _ _ _ _ (by simp)).trans h.bi, (World.cell?_setCell_other _ _ _ _ (by simp)).trans h.bq,
    h.fn.later ((Below.refl (w.heap.size + 1) _).setCell (Nat.le_refl _) _) (Nat.lt_succ_self _), h.below.setCell (by show _ ≤ w.heap.size + 1; omega) _, by rw [size_set]; exact h.size⟩
theorem BI.setQuiet {w W : World} {len : Nat} {s : ByteArray} {vp : Value} {regs words : Int} {vc : Value} {into : List Int} {quiet : List Bool} (h : BI w W len s vp regs words vc into quiet) (v : Nat) (z : Bool) :
    BI w (W.setCell ⟨w.heap.size + 1 + 1 + 1, v, none⟩ (.bool z)) len s vp regs words vc into (quiet.set v z) :=
  ⟨ownsRow_setCell_other h.into (by simp [Value.ownBlock]) _, OwnBools.store h.quiet v z, (World.cell?_setCell_other _ _ _ _ (by simp)).trans h.bi, (World.cell?_setCell_other _ _ _ _ (by simp)).trans h.bq,
    h.fn.later ((Below.refl (w.heap.size + 1 + 1 + 1) _).setCell (Nat.le_refl _) _) (by omega), h.below.setCell (by show _ ≤ w.heap.size + 1 + 1 + 1; omega) _, by rw [size_set]; exact h.size⟩
theorem BI.drew {w W : World} {len : Nat} {s : ByteArray} {vp : Value} {regs words : Int} {vc : Value} {into : List Int} {quiet : List Bool} (h : BI w W len s vp regs words vc into quiet) : BI w W.drew len s vp regs words vc into quiet :=
  ⟨World.ownsRow.drew h.into, World.ownsRow.drew h.quiet, h.bi, h.bq, ⟨h.fn.c0, h.fn.c1, h.fn.c2, h.fn.c3, h.fn.c4⟩, h.below.drew, h.size⟩
theorem BI.later {w W W' : World} {len : Nat} {s : ByteArray} {vp : Value} {regs words : Int} {vc : Value} {into : List Int} {quiet : List Bool} (h : BI w W len s vp regs words vc into quiet) (hb : Below W.heap.size W W') : BI w W' len s vp regs words vc into quiet :=
  have hs := h.size
  ⟨ownsRow_below h.into hb (Nat.le_refl _), ownsRow_below h.quiet hb (Nat.le_refl _), (hb.cell (by show w.heap.size + 1 + 1 < _; omega)).trans h.bi, (hb.cell (by show w.heap.size + 1 + 1 + 1 + 1 < _; omega)).trans h.bq,
    h.fn.later hb (by omega), h.below.trans (hb.mono (by omega)), Nat.le_trans h.size hb.size⟩

theorem KM.setCell {M : World → Nat → Prop} (hMs : ∀ (W : World) (p : Addr) (u : Value) (k : Nat), M (W.setCell p u) k → M W k) {W : World} {p : Addr} (u : Value) (hp : M W p.block) : KM M W (W.setCell p u) :=
  ⟨by rw [size_set]; exact Nat.le_refl _, fun k c e fz hk hm => by rw [Below.heap_setCell _ _ _ _ (fun e => hm (by rw [e]; exact hp))]; exact hk, fun k hk => Or.inl (hMs _ _ _ _ hk), fun h k hk => by rw [size_set]; exact h k (hMs _ _ _ _ hk)⟩
theorem KM.later {M : World → Nat → Prop} {n0 Bf B : Nat} (hM : MFit M n0 Bf B) {W W' : World} (hB : B ≤ W.heap.size) (hb : Below W.heap.size W W') : KM M W W' :=
  ⟨hb.size, fun k c e fz hk _ => by rw [hb.block k (Array.getElem?_eq_some_iff.1 hk).1]; exact hk, fun k hk => Or.inl (hM.step W W' hB (grown_below hb) k hk), fun h k hk => Nat.lt_of_lt_of_le (h k (hM.step W W' hB (grown_below hb) k hk)) hb.size⟩
theorem KM.drew {M : World → Nat → Prop} {n0 Bf B : Nat} (hM : MFit M n0 Bf B) {W : World} (hB : B ≤ W.heap.size) : KM M W W.drew := KM.later hM hB (Below.refl _ _).drew

theorem ints_form {w : World} {B : Nat} {v : Value} {l : List Int} (h : OwnInts w B v l) : ∃ a c, v = .slice a l.length c := by
  rcases h.form with ⟨h1, h2⟩ | ⟨g, c, h1, _⟩
  · exact ⟨none, 0, by rw [h1, h2]; rfl⟩
  · exact ⟨_, _, h1⟩

def blkM (S : Nat) (W : World) (k : Nat) : Prop := k < W.heap.size ∧ (k = S + 1 ∨ k = S + 1 + 1 + 1)
theorem blkM_fit (S Bf B : Nat) (h1 : Bf = S + 5) (h2 : S + 6 ≤ B) : MFit (blkM S) S Bf B := by
  refine ⟨fun W k h => ⟨by rcases h.2 with h | h <;> omega, by rcases h.2 with h | h <;> omega⟩, fun W W' hB _ k h => ⟨by rcases h.2 with h | h <;> omega, h.2⟩, fun W l o o' _ h ho k hk => ⟨by have := hk.1; simpa [World.putObj] using this, hk.2⟩⟩

end Go.Proofs.YtapjdndcnenadaaDoor
