/- dom.order: it returns, in new memory, the order of a search in depth. -/
import Derived.Test.YtapjdndcnenadaaDoorOrdPlain
import Derived.Test.YtapjdndcnenadaaDoorTold0
import Derived.StillTailTactics
namespace Go.Proofs.YtapjdndcnenadaaDoor
open Go.RowKit

theorem Tryd.infoPlace : (Tryd.prog.info? 92).map (fun i => (i.zero, i.size, i.bytes)) = some (some (.agg #[.int .i64 0, .int .i64 0]), 2, 16) := by kernel_rfl
def OwnPl (w : World) (B : Nat) (v : Value) (l : List Edge) : Prop := w.ownsRow B 92 2 v l.length (edgeVs l)
/-- The stack and the list of instructions, as they lie in memory. -/
def est (st : List (Nat × Nat)) : List Edge := st.map fun p => ((p.1 : Int), (p.2 : Int))
def ints (l : List Nat) : List Int := l.map Int.ofNat
theorem est_length (st : List (Nat × Nat)) : (est st).length = st.length := by simp [est]
theorem ints_length (l : List Nat) : (ints l).length = l.length := by simp [ints]
theorem est_snoc (t : List (Nat × Nat)) (a k : Nat) : est (t ++ [(a, k)]) = est t ++ [((a : Int), (k : Int))] := by simp [est]
theorem ints_snoc (t : List Nat) (a : Nat) : ints (t ++ [a]) = ints t ++ [(a : Int)] := by simp [ints]
theorem edgeVs_length (l : List Edge) : (edgeVs l).length = l.length * 2 := by
  induction l with
  | nil => rfl
  | cons x l ih => simp only [edgeVs, List.flatMap_cons, List.length_append, List.length_cons, List.length_nil] at *; omega
theorem edgeVs_snoc (l : List Edge) (e : Edge) : edgeVs (l ++ [e]) = edgeVs l ++ [.int .i64 e.1, .int .i64 e.2] := by simp [edgeVs]

theorem OwnPl.top {w : World} {B g n cap : Nat} {l : List Edge} {a k : Int} (h : OwnPl w B (.slice (some ⟨g, 0, none⟩) n cap) (l ++ [(a, k)])) : w.cell? ⟨g, l.length * 2, none⟩ = some (.int .i64 a) ∧ w.cell? ⟨g, l.length * 2 + 1, none⟩ = some (.int .i64 k) := by
  have hn : n = (l ++ [(a, k)]).length := by rcases h.2 with ⟨h, _⟩ | ⟨_, _, _, h, _⟩ <;> cases h; rfl
  subst hn
  have hl : (l ++ [(a, k)]).length = l.length + 1 := by simp
  have h1 := World.ownsRow.cellAt h (l.length * 2) (by rw [hl]; omega)
  have h2 := World.ownsRow.cellAt h (l.length * 2 + 1) (by rw [hl]; omega)
  rw [edgeVs_snoc, List.getElem?_append_right (by rw [edgeVs_length]; omega), edgeVs_length] at h1 h2
  exact ⟨by rw [h1]; simp, by rw [h2]; rw [show l.length * 2 + 1 - l.length * 2 = 1 by omega]; rfl⟩
theorem OwnPl.free {w : World} {B g cap n : Nat} {l : List Edge} (h : OwnPl w B (.slice (some ⟨g, 0, none⟩) n cap) l) (k : Nat) : w.frozen? ⟨g, k, none⟩ = false := by
  have hn : n = l.length := by rcases h.2 with ⟨h, _⟩ | ⟨_, _, _, h, _⟩ <;> cases h; rfl
  subst hn
  exact World.ownsRow.frozenAt h k
theorem OwnPl.way {w : World} {B g n cap : Nat} {l : List Edge} {a k : Int} (h : OwnPl w B (.slice (some ⟨g, 0, none⟩) n cap) (l ++ [(a, k)])) (k' : Int) : OwnPl (w.setCell ⟨g, l.length * 2 + 1, none⟩ (.int .i64 k')) B (.slice (some ⟨g, 0, none⟩) n cap) (l ++ [(a, k')]) := by
  have hn : n = (l ++ [(a, k)]).length := by rcases h.2 with ⟨h, _⟩ | ⟨_, _, _, h, _⟩ <;> cases h; rfl
  subst hn
  have := (World.ownsRow.stored h (l.length * 2 + 1) (.int .i64 k')).1
  unfold OwnPl
  have e : (edgeVs (l ++ [(a, k)])).set (l.length * 2 + 1) (.int .i64 k') = edgeVs (l ++ [(a, k')]) := by
    rw [edgeVs_snoc, edgeVs_snoc, List.set_append_right _ _ (by rw [edgeVs_length]; omega), edgeVs_length, show l.length * 2 + 1 - l.length * 2 = 1 by omega]
    rfl
  rw [e] at this
  have el : (l ++ [(a, k')]).length = (l ++ [(a, k)]).length := by simp
  rw [el]; exact this
theorem OwnPl.pop {w : World} {B g cap n : Nat} {l : List Edge} {x : Edge} (h : OwnPl w B (.slice (some ⟨g, 0, none⟩) (n + 1) cap) (l ++ [x])) (hn : n = l.length) : OwnPl w B (.slice (some ⟨g, 0, none⟩) n cap) l := by
  subst hn
  unfold OwnPl at *
  rw [edgeVs_snoc, List.length_append, List.length_singleton] at h
  exact ownsRow_pop (edgeVs_length l) h
theorem OwnPl.form {w : World} {B : Nat} {v : Value} {l : List Edge} (h : OwnPl w B v l) : (v = .slice none 0 0 ∧ l = []) ∨ ∃ g cap, v = .slice (some ⟨g, 0, none⟩) l.length cap ∧ B ≤ g ∧ g < w.heap.size ∧ l.length ≤ cap := by
  rcases h.2 with ⟨h1, h2⟩ | ⟨g, cap, cur, h1, h2, h3, h4, _⟩
  · exact Or.inl ⟨h1, List.eq_nil_of_length_eq_zero h2⟩
  · exact Or.inr ⟨g, cap, h1, h2, (Array.getElem?_eq_some_iff.1 h3).1, h4⟩

/-- 'todo = append(todo, place{..})'. -/
theorem append_place {ops : Array Oper} {rest : List Oper} {o : Oper} {a : Act} {Q : Exit → Act → World → Prop} {w : World} (hgd : o.guard = none) (s x : Operand)
    (ho : o.op = .call { callee := .builtin .append, args := #[s, x], argTypes := #[93, 93] })
    (B : Nat) (v : Value) (l : List Edge) (hs : a.eval s = v) (hown : OwnPl w B v l) (p q : Int) (hx : a.eval x = .slice (some ⟨w.heap.size, 0, none⟩) 1 1)
    (hl : l.length ≤ 1000000000000) (hB : B ≤ w.heap.size)
    (h : ∀ v' w', OwnPl w' B v' (l ++ [(p, q)]) → (w.alloc (.cells #[.int .i64 p, .int .i64 q] 92)).grownBy w' v.ownBlock → Fresh (w.alloc (.cells #[.int .i64 p, .int .i64 q] 92)) v v' → (∀ C w0, Below C w0 w → C ≤ B → Below C w0 w') → wpList Tryd.prog ops Q rest (a.put o.dst v') w') :
    wpList Tryd.prog ops Q (o :: rest) a (w.alloc (.cells #[.int .i64 p, .int .i64 q] 92)) := by
  refine append_gen hgd s x 93 ho Tryd.underlying93 Tryd.infoPlace rfl (by decide) B v l.length (edgeVs l) hs (World.ownsRow.alloc hown _) _ 1 [.int .i64 p, .int .i64 q] hx (sliceIn_new w [.int .i64 p, .int .i64 q] 1 2 92 rfl (by decide)) ?_ ?_ ?_ ?_ ?_
  · intro u hu; simp at hu; rcases hu with rfl | rfl <;> rfl
  · unfold maxLen; omega
  · omega
  · simp; omega
  · intro v' w' h1 h2 h3 h4
    exact h v' w' (by unfold OwnPl edgeVs at *; simpa using h1) h2 h3 fun C w0 hb hC => h4 C w0 (hb.alloc (by omega) _) hC

/-- The same, the new block's number spelt otherwise. -/
theorem append_place_at {ops : Array Oper} {rest : List Oper} {o : Oper} {a : Act} {Q : Exit → Act → World → Prop} {w : World} (hgd : o.guard = none) (s x : Operand)
    (ho : o.op = .call { callee := .builtin .append, args := #[s, x], argTypes := #[93, 93] })
    (B : Nat) (v : Value) (l : List Edge) (hs : a.eval s = v) (hown : OwnPl w B v l) (p q : Int) (g : Nat) (hx : a.eval x = .slice (some ⟨g, 0, none⟩) 1 1) (hg : w.heap.size = g)
    (hl : l.length ≤ 1000000000000) (hB : B ≤ w.heap.size)
    (h : ∀ v' w', OwnPl w' B v' (l ++ [(p, q)]) → (w.alloc (.cells #[.int .i64 p, .int .i64 q] 92)).grownBy w' v.ownBlock → Fresh (w.alloc (.cells #[.int .i64 p, .int .i64 q] 92)) v v' → (∀ C w0, Below C w0 w → C ≤ B → Below C w0 w') → wpList Tryd.prog ops Q rest (a.put o.dst v') w') :
    wpList Tryd.prog ops Q (o :: rest) a (w.alloc (.cells #[.int .i64 p, .int .i64 q] 92)) :=
  append_place hgd s x ho B v l hs hown p q (by rw [hx, hg]) hl hB h

theorem owns_lit (w : World) {B : Nat} {e : TypeId} (n size : Nat) (xs : List Value) (hB : B ≤ w.heap.size) (hx : xs.length = n * size) (hn : n ≤ 1000) :
    (w.alloc (.cells xs.toArray e)).ownsRow B e size (.slice (some ⟨w.heap.size, 0, none⟩) n n) n xs :=
  ⟨hx, .inr ⟨w.heap.size, n, xs.toArray, rfl, hB, heap_alloc_new w _, Nat.le_refl _, (by unfold maxLen; omega), (by simp; omega), (by rw [← hx]; simp)⟩⟩

/-- Turned round at both ends, i instructions each. -/
def revTo (l : List Nat) (i : Nat) : List Nat := (List.range l.length).map fun j => if j < i ∨ l.length - 1 - j < i then l.getD (l.length - 1 - j) 0 else l.getD j 0
theorem revTo_length (l : List Nat) (i : Nat) : (revTo l i).length = l.length := by simp [revTo]
theorem revTo_get (l : List Nat) (i j : Nat) (hj : j < l.length) : (revTo l i).getD j 0 = if j < i ∨ l.length - 1 - j < i then l.getD (l.length - 1 - j) 0 else l.getD j 0 := by
  simp [revTo, List.getD, hj]
theorem getD_ext {l m : List Nat} (h : l.length = m.length) (hg : ∀ j, j < l.length → l.getD j 0 = m.getD j 0) : l = m := by
  apply List.ext_getElem h
  intro j h1 h2
  have := hg j h1
  simpa [List.getD, h1, h2] using this
theorem revTo_zero (l : List Nat) : revTo l 0 = l := by
  refine getD_ext (revTo_length _ _) fun j hj => ?_
  rw [revTo_length] at hj
  rw [revTo_get l 0 j hj, if_neg (by omega)]
theorem revTo_step (l : List Nat) (i : Nat) (hi : i < l.length - 1 - i) : revTo l (i + 1) = ((revTo l i).set i ((revTo l i).getD (l.length - 1 - i) 0)).set (l.length - 1 - i) ((revTo l i).getD i 0) := by
  refine getD_ext (by simp [revTo_length]) fun j hj => ?_
  rw [revTo_length] at hj
  rw [revTo_get l (i + 1) j hj, getD_set_any, getD_set_any, List.length_set, revTo_length, revTo_get l i j hj, revTo_get l i i (by omega), revTo_get l i (l.length - 1 - i) (by omega)]
  repeat' split
  all_goals first
    | rfl
    | (exfalso; omega)
    | (congr 1; omega)
theorem revTo_all (l : List Nat) (i : Nat) (hi : l.length - 1 - i ≤ i) : revTo l i = l.reverse := by
  refine getD_ext (by simp [revTo_length]) fun j hj => ?_
  rw [revTo_length] at hj
  rw [revTo_get l i j hj]
  have e : l.reverse.getD j 0 = l.getD (l.length - 1 - j) 0 := by
    rw [List.getD_eq_getElem?_getD, List.getElem?_reverse hj, ← List.getD_eq_getElem?_getD]
  rw [e]
  by_cases h3 : j < i ∨ l.length - 1 - j < i
  · rw [if_pos h3]
  · rw [if_neg h3, show l.length - 1 - j = j by omega]
theorem ints_getD (l : List Nat) (j : Nat) : (ints l).getD j 0 = ((l.getD j 0 : Nat) : Int) := by
  simp only [ints, List.getD_eq_getElem?_getD, List.getElem?_map]
  cases l[j]? <;> rfl
theorem ints_set (l : List Nat) (j x : Nat) : ints (l.set j x) = (ints l).set j (x : Int) := by simp [ints, List.map_set]

structure DL (w wr : World) (n : Nat) (s : ByteArray) (vp : Value) (regs words : Int) (vc vo vt : Value) (code : List Ins) (been : List Bool) (st : List (Nat × Nat)) (out : List Nat) : Prop where
  inv : DInv code been st out
  been : OwnBools wr (w.heap.size + 1) (.slice (some ⟨w.heap.size + 1, 0, none⟩) n n) been
  todo : OwnPl wr (w.heap.size + 2) vt (est st)
  out : OwnInts wr (w.heap.size + 2) vo (ints out)
  apart : ∀ k, vt.ownBlock = some k → vo.ownBlock ≠ some k
  fn : FnAt wr w.heap.size s vp regs words vc
  below : Below w.heap.size w wr
  size : w.heap.size + 3 ≤ wr.heap.size

def dMeas (been : List Bool) (st : List (Nat × Nat)) : Nat := 4 * been.count false + (st.map fun p => 3 - p.2).sum

theorem dMeas_snoc (been : List Bool) (t : List (Nat × Nat)) (v k : Nat) : dMeas been (t ++ [(v, k)]) = dMeas been t + (3 - k) := by
  unfold dMeas; simp; omega
theorem DL.later {w wr w' : World} {n : Nat} {s : ByteArray} {vp : Value} {regs words : Int} {vc vo vt : Value} {code : List Ins} {been : List Bool} {st : List (Nat × Nat)} {out : List Nat} (h : DL w wr n s vp regs words vc vo vt code been st out) (hb : Below wr.heap.size wr w') : DL w w' n s vp regs words vc vo vt code been st out :=
  have hs := h.size
  ⟨h.inv, ownsRow_below h.been hb (Nat.le_refl _), ownsRow_below h.todo hb (Nat.le_refl _), ownsRow_below h.out hb (Nat.le_refl _), h.apart, h.fn.later hb (by omega), h.below.trans (hb.mono (by omega)), Nat.le_trans h.size hb.size⟩

section
variable {w w2 w' : World} {n : Nat} {s : ByteArray} {vp : Value} {regs words : Int} {vc vo v' : Value} {code : List Ins} {been : List Bool} {t : List (Nat × Nat)} {v k g4 c4 m : Nat} {out : List Nat}
theorem DL.popped (h : DL w w2 n s vp regs words vc vo (.slice (some ⟨g4, 0, none⟩) m c4) code been (t ++ [(v, k)]) out) (hm : t.length = m - 1) (hm0 : 0 < m) (hk : (nextL code v).length ≤ k) (hg4 : g4 < w2.heap.size)
    (ho : OwnInts w' (w.heap.size + 2) v' (ints out ++ [(v : Int)])) (hgr : (w2.alloc (.cells #[.int .i64 (v : Int)] 3)).grownBy w' vo.ownBlock) (hfr : Fresh (w2.alloc (.cells #[.int .i64 (v : Int)] 3)) vo v')
    (hbb : ∀ (C : Nat) (w0 : World), Below C w0 w2 → C ≤ w.heap.size + 2 → Below C w0 w') : DL w w' n s vp regs words vc v' (.slice (some ⟨g4, 0, none⟩) (m - 1) c4) code been t (out ++ [v]) := by
  have hob : ∀ q, vo.ownBlock = some q → w.heap.size + 2 ≤ q := fun q hq => (World.ownsRow.lt h.out q hq).1
  have hto := h.todo
  obtain ⟨q, hq⟩ : ∃ q, m = q + 1 := ⟨m - 1, by omega⟩
  rw [hq, est_snoc] at hto
  have hto2 := hto.pop (by rw [est_length, hm, hq]; rfl)
  have e : m - 1 = q := by omega
  refine ⟨h.inv.pop hk, (World.ownsRow.alloc h.been _).kept hgr (.inr (fun e => ?_)), ?_, by rw [ints_snoc]; exact ho, fun q hq h5 => ?_, h.fn.later (hbb (w.heap.size + 1) w2 (Below.refl _ _) (by omega)) (Nat.lt_succ_self _), hbb _ _ h.below (by omega), ?_⟩
  · have : w.heap.size + 2 ≤ w.heap.size + 1 := hob _ e.symm
    omega
  · rw [e]; exact (World.ownsRow.alloc hto2 _).kept hgr (.inr (fun e => h.apart g4 rfl e.symm))
  · have hq4 : q = g4 := by simp [Value.ownBlock] at hq; exact hq.symm
    subst hq4
    exact hfr q (by simp; omega) (h.apart q rfl) h5
  · have := hgr.size; have := h.size; simp at *; omega

theorem DL.way (h : DL w w2 n s vp regs words vc vo (.slice (some ⟨g4, 0, none⟩) m c4) code been (t ++ [(v, k)]) out) (hm : t.length = m - 1) : OwnPl (w2.setCell ⟨g4, (m - 1) * 2 + 1, none⟩ (.int .i64 ((k : Int) + 1))) (w.heap.size + 2) (.slice (some ⟨g4, 0, none⟩) m c4) (est (t ++ [(v, k + 1)])) := by
  have hto := h.todo
  rw [est_snoc] at hto
  have := hto.way ((k : Int) + 1)
  rw [est_length, hm] at this
  rw [est_snoc]
  exact this

theorem DL.passed {x : Nat} (h : DL w w2 n s vp regs words vc vo (.slice (some ⟨g4, 0, none⟩) m c4) code been (t ++ [(v, k)]) out) (hm : t.length = m - 1) (hg4 : w.heap.size + 2 ≤ g4) (hk : k < (nextL code v).length) (hx : (nextL code v).getD k 0 = x) (hb : been.getD x false = true) :
    DL w (w2.setCell ⟨g4, (m - 1) * 2 + 1, none⟩ (.int .i64 ((k : Int) + 1))) n s vp regs words vc vo (.slice (some ⟨g4, 0, none⟩) m c4) code been (t ++ [(v, k + 1)]) out :=
  ⟨h.inv.pass hk hx hb, ownsRow_setCell_other h.been (by simp [Value.ownBlock]; omega) _, h.way hm, ownsRow_setCell_other h.out (h.apart g4 rfl) _, h.apart, h.fn.later ((Below.refl (w.heap.size + 1) _).setCell (by show w.heap.size + 1 ≤ g4; omega) _) (Nat.lt_succ_self _), h.below.setCell (by show w.heap.size ≤ g4; omega) _, by rw [size_set]; exact h.size⟩

theorem DL.pushed {x : Nat} {vt : Value} (h : DL w w2 n s vp regs words vc vo (.slice (some ⟨g4, 0, none⟩) m c4) code been (t ++ [(v, k)]) out) (hg4 : w.heap.size + 2 ≤ g4) (hk : k < (nextL code v).length) (hx : (nextL code v).getD k 0 = x) (hb : been.getD x false = false)
    (ho : OwnPl w' (w.heap.size + 2) vt (est (t ++ [(v, k + 1)]) ++ [((x : Int), 0)]))
    (hgr : (((w2.setCell ⟨g4, (m - 1) * 2 + 1, none⟩ (.int .i64 ((k : Int) + 1))).setCell ⟨w.heap.size + 1, x, none⟩ (.bool true)).alloc (.cells #[.int .i64 (x : Int), .int .i64 0] 92)).grownBy w' (some g4))
    (hfr : Fresh (((w2.setCell ⟨g4, (m - 1) * 2 + 1, none⟩ (.int .i64 ((k : Int) + 1))).setCell ⟨w.heap.size + 1, x, none⟩ (.bool true)).alloc (.cells #[.int .i64 (x : Int), .int .i64 0] 92)) (.slice (some ⟨g4, 0, none⟩) m c4) vt)
    (hbb : ∀ (C : Nat) (w0 : World), Below C w0 ((w2.setCell ⟨g4, (m - 1) * 2 + 1, none⟩ (.int .i64 ((k : Int) + 1))).setCell ⟨w.heap.size + 1, x, none⟩ (.bool true)) → C ≤ w.heap.size + 2 → Below C w0 w') :
    DL w w' n s vp regs words vc vo vt code (been.set x true) (t ++ [(v, k + 1)] ++ [(x, 0)]) out := by
  have hsz := hgr.size
  simp only [World.size_alloc, size_set] at hsz
  refine ⟨h.inv.push hk hx hb, (World.ownsRow.alloc (OwnBools.store (ownsRow_setCell_other h.been (by simp [Value.ownBlock]; omega) _) x true) _).kept hgr (.inr (by simp [Value.ownBlock]; omega)), by rw [est_snoc]; exact ho,
    (World.ownsRow.alloc (ownsRow_setCell_below (a := ⟨w.heap.size + 1, x, none⟩) (ownsRow_setCell_other h.out (h.apart g4 rfl) _) (by show w.heap.size + 1 < _; omega) _) _).kept hgr (.inr (fun e => h.apart g4 rfl e)), fun q hq h5 => ?_,
    h.fn.later (hbb (w.heap.size + 1) w2 (((Below.refl (w.heap.size + 1) _).setCell (by show w.heap.size + 1 ≤ g4; omega) _).setCell (Nat.le_refl _) _) (by omega)) (Nat.lt_succ_self _),
    hbb _ _ ((h.below.setCell (by show w.heap.size ≤ g4; omega) _).setCell (by show w.heap.size ≤ w.heap.size + 1; omega) _) (by omega), by have := h.size; omega⟩
  have hlt := (World.ownsRow.lt h.out q h5).2
  refine hfr q (by rw [World.size_alloc, size_set, size_set]; omega) (fun e => ?_) hq
  exact h.apart q e h5
end

set_option maxRecDepth 100000 in
set_option maxHeartbeats 4000000 in
theorem order_any (s : ByteArray) (vp : Value) (regs words : Int) (vc : Value) (code : List Ins) (w : World) (hh : hasB code = true) (hc : CodeIn w vc code) :
    Calls Tryd.prog 42 #[fnV s vp regs words vc] w (fun e w' => ∃ l, OrdOK code l ∧ RetInts (ints l) w e w') := by
  have hpos : 0 < code.length ∧ code.length ≤ 1024 := by simpa [hasB] using hh
  obtain ⟨hp0, hp1⟩ := hpos
  have hcv := hc
  obtain ⟨-, ac, cc, rfl, -⟩ := hcv
  have Hc := Lib.hid hc
  have Hlen : Hid (code.length * 40 ≤ 140737488351232) := by show _ ≤ _; omega
  obtain ⟨n, hn⟩ : ∃ n, n = code.length := ⟨_, rfl⟩
  rw [← hn] at hp0 hp1 Hc ⊢
  have Hn := Lib.hid hn
  clear hc hh hn
  go_enter Tryd.func42, Tryd.ntmps42
  go_wp2_with (at_make; refine make_bools rfl _ _ rfl (w.heap.size + 1) n rfl rfl (by omega) (by (try simp only [World.size_alloc]); (try simp only [size_set]); omega) ?_)
  intro w1 hcan hgr
  have hfn : FnAt w1 w.heap.size s vp regs words (.slice ac n cc) := (FnAt.box w s vp regs words _ _).later (Below.grown (Below.refl (w.heap.size + 1) _) hgr (by (try simp only [World.size_alloc]); (try simp only [size_set]); omega) (by intro k hk; cases hk)) (Nat.lt_succ_self _)
  have hbl : Below w.heap.size w w1 := Below.grown ((Below.refl _ _).alloc (Nat.le_refl _) _) hgr (by (try simp only [World.size_alloc]); (try simp only [size_set]); omega) (by intro k hk; cases hk)
  have hsz : w.heap.size + 2 ≤ w1.heap.size := by
    have := (World.ownsRow.lt hcan _ rfl).2; simp at this; omega
  have hsz1 : w.heap.size + 1 < w1.heap.size := by omega
  have hc0 : w1.cell? ⟨w.heap.size + 1, 0, none⟩ = some (.bool false) := by
    have := OwnBools.cell hcan (k := 0) (by simp; omega)
    rw [this]; simp [List.getD, hp0]
  have hz0 : w1.frozen? ⟨w.heap.size + 1, 0, none⟩ = false := by
    exact OwnBools.free hcan 0
  have Hcan : Hid (OwnBools w1 (w.heap.size + 1) (.slice (some ⟨w.heap.size + 1, 0, none⟩) n n) (List.replicate n false)) := hcan
  have Hfn := Lib.hid hfn
  have Hbl := Lib.hid hbl
  clear hcan hgr hfn hbl
  go_upto_block 0 with (fail)
  go_wp2_with fail
  go_loopg [4, 5, 6, 7, 8] (dMeas ((List.replicate n false).set 0 true) [(0, 0)]) (fun g vo vt _ _ _ wr => ∃ been st out, g = dMeas been st ∧ DL w wr n s vp regs words (.slice ac n cc) vo vt code been st out)
  case atStart =>
    have h1 : OwnBools (w1.setCell ⟨w.heap.size + 1, 0, none⟩ (.bool true)) (w.heap.size + 1) (.slice (some ⟨w.heap.size + 1, 0, none⟩) n n) ((List.replicate n false).set 0 true) := OwnBools.store Hcan.out 0 true
    have h2 : FnAt (w1.setCell ⟨w.heap.size + 1, 0, none⟩ (.bool true)) w.heap.size s vp regs words (.slice ac n cc) := Hfn.out.later ((Below.refl (w.heap.size + 1) _).setCell (Nat.le_refl _) _) (Nat.lt_succ_self _)
    have h3 : Below w.heap.size w (w1.setCell ⟨w.heap.size + 1, 0, none⟩ (.bool true)) := Hbl.out.setCell (by show w.heap.size ≤ w.heap.size + 1; omega) _
    refine ⟨_, [(0, 0)], [], rfl, ?_, World.ownsRow.alloc h1 _, ?_, World.ownsRow_nil _ _ _ _, fun k _ h => by simp [Value.ownBlock] at h, h2.later ((Below.refl _ _).alloc (Nat.le_refl _) _) (by rw [size_set]; omega), h3.alloc (by rw [size_set]; omega) _, by rw [World.size_alloc, size_set]; omega⟩
    · have := DInv.start (code := code) (by rw [← Hn.out]; exact hp0)
      rwa [← Hn.out] at this
    · have := owns_lit (w1.setCell ⟨w.heap.size + 1, 0, none⟩ (.bool true)) (B := w.heap.size + 2) (e := 92) 1 2 [.int .i64 0, .int .i64 0] (by rw [size_set]; omega) rfl (by decide)
      rw [size_set] at this
      exact this
  case round =>
    obtain ⟨been, st, out, hg, hL⟩ := hrel
    have Hg := Lib.hid hg
    have HL := Lib.hid hL
    clear hg hL hc0 hz0
    rcases snoc_cases st with rfl | ⟨t, ⟨v, k⟩, rfl⟩
    · have hOK := HL.out.inv.done
      have hlast : 0 < out.length := by
        rcases HL.out.inv.bot with h | ⟨_, h⟩
        · simp at h
        · have := (List.getElem?_eq_some_iff.1 h).1; omega
      have hsm := HL.out.inv.small (by rw [← Hn.out]; exact hp0)
      rw [← Hn.out] at hsm
      obtain ⟨N, hN⟩ : ∃ N, N = out.length := ⟨_, rfl⟩
      obtain ⟨go, co, rfl, hgo, hgos, hco⟩ : ∃ g c, u4 = .slice (some ⟨g, 0, none⟩) N c ∧ w.heap.size + 2 ≤ g ∧ g < wr.heap.size ∧ N ≤ c := by
        rcases HL.out.out.form with ⟨_, h⟩ | ⟨g, c, h, h2⟩
        · have := ints_length out; rw [h] at this; simp at this; omega
        · exact ⟨g, c, by rw [h, ints_length, hN], by rw [hN]; simpa [ints_length] using h2⟩
      have hn5 : u5 = .slice none 0 0 ∨ ∃ g c, u5 = .slice (some ⟨g, 0, none⟩) 0 c := by
        rcases HL.out.todo.form with ⟨h, _⟩ | ⟨g, c, h, _⟩
        · exact Or.inl h
        · exact Or.inr ⟨g, c, h⟩
      have hN1 : 0 < N := by omega
      have hN2 : N ≤ n := by simp at hsm; omega
      have HN := Lib.hid hN
      have HO := Lib.hid hOK
      have Ho : Hid (OwnInts wr (w.heap.size + 2) (.slice (some ⟨go, 0, none⟩) N co) (ints out)) := HL.out.out
      have Hb : Hid (Below w.heap.size w wr) := HL.out.below
      obtain ⟨wS, rfl⟩ : ∃ wS : World, wS = wr := ⟨_, rfl⟩
      clear hN hOK hlast hsm Hg HL Hcan Hfn Hbl hsz hsz1
      rcases hn5 with rfl | ⟨g5, c5, rfl⟩
      all_goals
        go_wp2_with fail
        go_loopg [9, 10] N (fun g a b wr => ∃ i : Nat, i ≤ N - 1 ∧ g = N - i ∧ a = .int .i64 (i : Int) ∧ b = .int .i64 ((N : Int) - 1 - i) ∧ OwnInts wr (w.heap.size + 2) (.slice (some ⟨go, 0, none⟩) N co) (ints (revTo out i)) ∧ Below w.heap.size w wr)
        case atStart => exact ⟨0, Nat.zero_le _, rfl, rfl, by simp, by rw [revTo_zero]; exact Ho.out, Hb.out⟩
        case round =>
          obtain ⟨i, hi, hg, rfl, rfl, hoi, hbi⟩ := hrel
          have Hg := Lib.hid hg
          have Hoi := Lib.hid hoi
          have Hbi := Lib.hid hbi
          clear hg hoi hbi
          obtain ⟨k, hk⟩ : ∃ k, k = N - 1 - i := ⟨_, rfl⟩
          have ek : (N : Int) - 1 - i = (k : Int) := by omega
          rw [ek]
          by_cases hik : i < k
          · have hcl : (revTo out i).length = N := by rw [revTo_length, HN.out]
            have ci := OwnInts.cell Hoi.out (k := i) (by rw [ints_length, hcl]; omega)
            have ck := OwnInts.cell Hoi.out (k := k) (by rw [ints_length, hcl]; omega)
            have zi := OwnInts.free Hoi.out i
            have zk := OwnInts.free Hoi.out k
            have est : revTo out (i + 1) = ((revTo out i).set i ((revTo out i).getD k 0)).set k ((revTo out i).getD i 0) := by
              have := revTo_step out i (by rw [← HN.out, ← hk]; exact hik)
              rw [← HN.out, ← hk] at this
              exact this
            rw [ints_getD] at ci ck
            generalize (revTo out i).getD i 0 = x at ci est
            generalize (revTo out i).getD k 0 = y at ck est
            have hkN : k < N := by omega
            have hiN : i < N := by omega
            have Hest := Lib.hid est
            have Hk := Lib.hid hk
            clear est hcl hk ek
            go_wp2_with fail
            go_region
            have hnew : OwnInts ((wr.setCell ⟨go, i, none⟩ (.int .i64 (y : Int))).setCell ⟨go, k, none⟩ (.int .i64 (x : Int))).drew (w.heap.size + 2) (.slice (some ⟨go, 0, none⟩) N co) (ints (revTo out (i + 1))) := by
              rw [Hest.out, ints_set, ints_set]
              exact World.ownsRow.drew (OwnInts.store (OwnInts.store Hoi.out i (y : Int)) k (x : Int))
            have hbn : Below w.heap.size w ((wr.setCell ⟨go, i, none⟩ (.int .i64 (y : Int))).setCell ⟨go, k, none⟩ (.int .i64 (x : Int))).drew := ((Hbi.out.setCell (by show w.heap.size ≤ go; omega) _).setCell (by show w.heap.size ≤ go; omega) _).drew
            have Hnew := Lib.hid hnew
            have Hbn := Lib.hid hbn
            clear hnew hbn
            go_wp2_with fail
            go_roundg (N - (i + 1))
            case measure => have := Hg.out; omega
            case rel => exact ⟨i + 1, by have := Hk.out; omega, rfl, by go_num, (by have := Hk.out; congr 1; omega), Hnew.out, Hbn.out⟩
          · have hall : revTo out i = out.reverse := revTo_all out i (by rw [← HN.out]; omega)
            have Hoi2 : Hid (OwnInts wr (w.heap.size + 2) (.slice (some ⟨go, 0, none⟩) N co) (ints out.reverse)) := by rw [← hall]; exact Hoi.out
            clear hall hk ek Hoi
            go_wp2_with fail
            go_ret
            exact ⟨out.reverse, HO.out, _, rfl, ownsRow_mono Hoi2.out (by omega), Hbi.out⟩
    · have hvr := HL.out.inv.rch v (.inl (by simp))
      have hvl : v < n := by rw [Hn.out]; exact hvr.lt (by rw [← Hn.out]; exact hp0)
      have hkw := (HL.out.inv.way (v, k) (by simp)).1
      have hk2 : k ≤ 2 := Nat.le_trans hkw (nextL_len _ _)
      have hsm := HL.out.inv.small (by rw [← Hn.out]; exact hp0)
      rw [← Hn.out] at hsm
      simp only [List.length_append, List.length_singleton] at hsm
      have hform : ∃ g4 c4, u5 = .slice (some ⟨g4, 0, none⟩) (t.length + 1) c4 ∧ w.heap.size + 2 ≤ g4 ∧ g4 < wr.heap.size ∧ t.length + 1 ≤ c4 := by
        rcases HL.out.todo.form with ⟨_, h⟩ | ⟨g, c, h, h2⟩
        · simp [est] at h
        · exact ⟨g, c, by simpa [est] using h, by simpa [est] using h2⟩
      obtain ⟨g4, c4, rfl, hg4, hg4s, hc4⟩ := hform
      have hto := HL.out.todo
      rw [est_snoc] at hto
      obtain ⟨hca, hck⟩ := OwnPl.top hto
      rw [est_length] at hca hck
      obtain ⟨m, hm⟩ : ∃ m, m = t.length + 1 := ⟨_, rfl⟩
      have hm1 : t.length = m - 1 := by omega
      rw [hm1] at hca hck
      rw [← hm] at hc4 hsm HL ⊢
      have hm0 : 0 < m := by omega
      have hm9 : m ≤ 4000 := by omega
      have Hm1 := Lib.hid hm1
      have hmi : ((m : Int) - 1).toNat = m - 1 := by omega
      have hmi2 : 0 ≤ (m : Int) - 1 := by omega
      obtain ⟨f0, f1, f2, f3, f4⟩ := HL.out.fn
      have Hsm := Lib.hid hsm
      have Hkw := Lib.hid hkw
      clear hm hm1 hto hvr hkw hsm
      go_wp2_with fail
      go_still_tail 5, (by kernel_rfl)
      change wpList _ _ _ _ _ wr.drew
      have hcode : CodeIn wr.drew (.slice ac n cc) code := SliceIn.later Hc.out HL.out.below.drew
      have Hcode := Lib.hid hcode
      clear hcode
      go_wp2_with fail
      refine (next_any s vp regs words _ code _ _ Hlen.out Hcode.out).mono ?_
      rintro e w2 ⟨v7, rfl, hv7, hb2⟩
      have hb2' : Below wr.heap.size wr w2 := (Below.refl _ _).drew.trans hb2
      obtain ⟨L, hLL⟩ : ∃ L, L = nextL code v := ⟨_, rfl⟩
      rw [← hLL] at hv7
      have hv7' : OwnInts w2 wr.heap.size v7 L := hv7
      obtain ⟨a7, c7, rfl, hc7⟩ : ∃ a7 c7, v7 = .slice a7 L.length c7 ∧ (0 < L.length → ∃ g, a7 = some ⟨g, 0, none⟩ ∧ wr.heap.size ≤ g) := by
        rcases hv7'.form with ⟨h, h2⟩ | ⟨g, c, h, h2, _⟩
        · exact ⟨none, 0, by rw [h, h2]; rfl, by rw [h2]; simp⟩
        · exact ⟨_, _, h, fun _ => ⟨g, rfl, h2⟩⟩
      obtain ⟨nL, hnL⟩ : ∃ nL, nL = L.length := ⟨_, rfl⟩
      rw [← hnL] at hc7 hv7' ⊢
      have hnL2 : nL ≤ 2 := by rw [hnL, hLL]; exact nextL_len _ _
      have hca2 := (hb2'.cell (p := ⟨g4, (m - 1) * 2, none⟩) hg4s).trans hca
      have hck2 := (hb2'.cell (p := ⟨g4, (m - 1) * 2 + 1, none⟩) hg4s).trans hck
      have hkl : k ≤ nL := by rw [hnL, hLL]; exact Hkw.out
      have HL2 := Lib.hid (HL.out.later hb2')
      have HLL := Lib.hid hLL
      have HnL := Lib.hid hnL
      have Hv7 := Lib.hid hv7'
      have hg4s2 : g4 < w2.heap.size := Nat.lt_of_lt_of_le hg4s hb2'.size
      have hs2 : wr.heap.size ≤ w2.heap.size := hb2'.size
      clear hb2 hb2' hv7 hv7' hLL hnL hca hck f0 f1 f2 f3 f4 Hcode Hcan Hfn Hbl HL Hkw
      by_cases hkn : k = nL
      · have hd : ((k : Int) == (nL : Int)) = true := by simp [hkn]
        have hlo : (ints out).length ≤ 1000000000000 := by rw [ints_length]; have := Hsm.out; omega
        have ho2 := HL2.out.out
        have hs3 : w.heap.size + 2 ≤ w2.heap.size := by have := HL2.out.size; omega
        have Ho2 := Lib.hid ho2
        have Hlo := Lib.hid hlo
        have Hkn := Lib.hid hkn
        clear ho2 hlo hkn
        go_wp2_with (at_builtin; refine append_int rfl _ _ rfl (w.heap.size + 2) _ _ rfl Ho2.out _ rfl Hlo.out hs3 ?_)
        intro v' w' ho' hgr hfr hbb
        have hP := HL2.out.popped Hm1.out hm0 (by rw [← HLL.out, ← HnL.out, Hkn.out]; exact Nat.le_refl _) hg4s2 ho' hgr hfr hbb
        have HP := Lib.hid hP
        clear ho' hgr hfr hbb hP
        go_wp2_with fail
        go_roundg (dMeas been t)
        case measure => rw [Hg.out, dMeas_snoc]; omega
        case rel => exact ⟨_, _, _, rfl, HP.out⟩
      · have hd : ((k : Int) == (nL : Int)) = false := by simp; omega
        obtain ⟨g7, rfl, hg7⟩ := hc7 (by omega)
        have hcw : w2.cell? ⟨g7, k, none⟩ = some (.int .i64 (L.getD k 0)) := OwnInts.cell Hv7.out (by rw [← HnL.out]; omega)
        have hmem : L.getD k 0 ∈ nextL code v := by rw [← HLL.out]; exact getD_mem (by rw [← HnL.out]; omega)
        obtain ⟨hx0, hx1, _⟩ := nextL_range hmem
        obtain ⟨x, hx⟩ := Int.eq_ofNat_of_zero_le hx0
        rw [hx] at hcw hx1
        have hxn : x < n := by rw [Hn.out]; omega
        have hkl2 : k < nL := by omega
        have Hx : Hid ((nextL code v).getD k 0 = (x : Int)) := by show _ = _; rw [← HLL.out]; exact hx
        have hfz := OwnPl.free HL2.out.todo ((m - 1) * 2 + 1)
        have hbn : w2.cell? ⟨w.heap.size + 1, x, none⟩ = some (.bool (been.getD x false)) := OwnBools.cell HL2.out.been (by rw [HL2.out.inv.len, ← Hn.out]; exact hxn)
        have hbz : w2.frozen? ⟨w.heap.size + 1, x, none⟩ = false := OwnBools.free HL2.out.been x
        have Hkn := Lib.hid hkn
        clear hkn hx hmem hx0 hx1
        cases hbx : been.getD x false
        · rw [hbx] at hbn
          have Hbx := Lib.hid hbx
          clear hbx
          have hway := HL2.out.way Hm1.out
          have hto4 : OwnPl ((w2.setCell ⟨g4, (m - 1) * 2 + 1, none⟩ (.int .i64 ((k : Int) + 1))).setCell ⟨w.heap.size + 1, x, none⟩ (.bool true)) (w.heap.size + 2) (.slice (some ⟨g4, 0, none⟩) m c4) (est (t ++ [(v, k + 1)])) := ownsRow_setCell_below (a := ⟨w.heap.size + 1, x, none⟩) hway (by show w.heap.size + 1 < _; omega) _
          have Hto4 := Lib.hid hto4
          have hlo : (est (t ++ [(v, k + 1)])).length ≤ 1000000000000 := by rw [est_length]; have := Hm1.out; simp; omega
          have Hlo := Lib.hid hlo
          have hs4 : w.heap.size + 2 ≤ ((w2.setCell ⟨g4, (m - 1) * 2 + 1, none⟩ (.int .i64 ((k : Int) + 1))).setCell ⟨w.heap.size + 1, x, none⟩ (.bool true)).heap.size := by rw [size_set, size_set]; have := HL2.out.size; omega
          have Hs4 := Lib.hid hs4
          have Hz4 : Hid (((w2.setCell ⟨g4, (m - 1) * 2 + 1, none⟩ (.int .i64 ((k : Int) + 1))).setCell ⟨w.heap.size + 1, x, none⟩ (.bool true)).heap.size = w2.heap.size) := by show _ = _; rw [size_set, size_set]
          clear hway hto4 hlo hs4
          go_wp2_with (at_builtin; refine append_place_at rfl _ _ rfl (w.heap.size + 2) _ _ rfl Hto4.out _ _ _ rfl Hz4.out Hlo.out Hs4.out ?_)
          intro v' w' ho' hgr hfr hbb
          have hP := HL2.out.pushed hg4 (by rw [← HLL.out, ← HnL.out]; exact hkl2) Hx.out Hbx.out ho' hgr hfr hbb
          have hcs := count_set (l := been) (i := x) (by rw [HL2.out.inv.len, ← Hn.out]; exact hxn) Hbx.out
          have HP := Lib.hid hP
          have Hcs := Lib.hid hcs
          clear ho' hgr hfr hbb hP hcs
          go_wp2_with fail
          go_roundg (dMeas (been.set x true) (t ++ [(v, k + 1)] ++ [(x, 0)]))
          case measure => rw [Hg.out, dMeas_snoc, dMeas_snoc, dMeas_snoc]; unfold dMeas; have := Hcs.out; omega
          case rel => exact ⟨_, _, _, rfl, HP.out⟩
        · rw [hbx] at hbn
          have Hbx := Lib.hid hbx
          have HP := Lib.hid (HL2.out.passed Hm1.out hg4 (by rw [← HLL.out, ← HnL.out]; exact hkl2) Hx.out hbx)
          clear hbx
          go_wp2_with fail
          go_roundg (dMeas been (t ++ [(v, k + 1)]))
          case measure => rw [Hg.out, dMeas_snoc, dMeas_snoc]; omega
          case rel => exact ⟨_, _, _, rfl, HP.out⟩
end Go.Proofs.YtapjdndcnenadaaDoor
