/- R2.Big: where it says no, a program has few parts. -/
import Derived.Test.YtgcplcffejbniaaTrCopyW
import Derived.Test.YtgcplcffejbniaaTrForm
/- A program in memory of its own: the plain part. -/
namespace Go.Proofs.Ytgcplcffejbniaa
open Go.RowKit

theorem Try.infoI64 : (Try.prog.info? 2).map (fun i => (i.zero, i.size, i.bytes)) = some (some (.int .i64 0), 1, 8) := by kernel_rfl
theorem Try.infoPm : (Try.prog.info? 63).map (fun i => (i.zero, i.size, i.bytes)) = some (some (.agg #[.string ⟨#[]⟩, .int .i64 0, .int .i64 0]), 3, 32) := by kernel_rfl
theorem Try.infoFn : (Try.prog.info? 40).map (fun i => (i.zero, i.size, i.bytes)) = some (some (.agg #[.string ⟨#[]⟩, .slice none 0 0, .slice none 0 0]), 3, 64) := by kernel_rfl
/-- 'out = append(out, x)', x one element in a new block. -/
theorem append_one {P : Program} {ops : Array Oper} {rest : List Oper} {o : Oper} {a : Act} {Q : Exit → Act → World → Prop} {w : World} (hgd : o.guard = none) (s x : Operand) (t : TypeId)
    (ho : o.op = .call { callee := .builtin .append, args := #[s, x], argTypes := #[t, t] })
    {e : TypeId} {z : Value} {size bytes : Nat} (ht : P.underlying t = some (.slice e)) (hinfo : (P.info? e).map (fun i => (i.zero, i.size, i.bytes)) = some (some z, size, bytes))
    (hzs : z.cells.size = size) (hsz : 0 < size) (hbt : bytes ≤ 300) (B : Nat) (v : Value) (n : Nat) (xs : List Value) (hs : a.eval s = v) (hown : w.ownsRow B e size v n xs) (cs : List Value) (hcs : cs.length = size) (h1 : ∀ u ∈ cs, u.oneCell' = true)
    (hx : a.eval x = .slice (some ⟨w.heap.size, 0, none⟩) 1 1) (hl : n ≤ 5000000) (hB : B ≤ w.heap.size)
    (h : ∀ v' w', w'.ownsRow B e size v' (n + 1) (xs ++ cs) → (w.alloc (.cells cs.toArray e)).grownBy w' v.ownBlock → Fresh (w.alloc (.cells cs.toArray e)) v v' → wpList P ops Q rest (a.put o.dst v') w') :
    wpList P ops Q (o :: rest) a (w.alloc (.cells cs.toArray e)) := by
  refine append_gen hgd s x t ho ht hinfo hzs hsz B v n xs hs (World.ownsRow.alloc hown _) _ 1 cs hx (sliceIn_new w cs 1 size e (by omega) (by decide)) h1 (by unfold maxLen; omega) ?_ (by simp; omega) fun v' w' h1 h2 h3 _ => h v' w' h1 h2 h3
  have : (n + 1) * bytes ≤ 5000001 * 300 := Nat.mul_le_mul (by omega) hbt
  omega
def fnRow (l : List Fn) (vp vb : Nat → Value) (i : Nat) : List Value := match l[i]? with
  | some x => [.string x.name, vp i, vb i]
  | none => []
def pmRow (l : List Pm) (i : Nat) : List Value := match l[i]? with
  | some y => [.string y.name, .int .i64 y.lo, .int .i64 y.hi]
  | none => []
theorem fnRow_at {l : List Fn} {i : Nat} {x : Fn} (h : l[i]? = some x) (vp vb : Nat → Value) : fnRow l vp vb i = [.string x.name, vp i, vb i] := by unfold fnRow; rw [h]
theorem pmRow_at {l : List Pm} {i : Nat} {x : Pm} (h : l[i]? = some x) : pmRow l i = [.string x.name, .int .i64 x.lo, .int .i64 x.hi] := by unfold pmRow; rw [h]
theorem fnRow_len (l : List Fn) (vp vb : Nat → Value) (i : Nat) (h : i < l.length) : (fnRow l vp vb i).length = 3 := by rw [fnRow_at (List.getElem?_eq_getElem h)]; rfl
theorem pmRow_len (l : List Pm) (i : Nat) (h : i < l.length) : (pmRow l i).length = 3 := by rw [pmRow_at (List.getElem?_eq_getElem h)]; rfl
def sparePm : List Value := [.string ⟨#[63]⟩, .int .i64 0, .int .i64 0]
def spareFn : List Value := [.string ⟨#[63]⟩, .slice none 0 0, .slice none 0 0]
/-- A row of structs as a list of cells. -/
theorem RowOf.slice {w : World} {v : Value} {n size : Nat} {P : Nat → Nat → Nat → Prop} {f : Nat → List Value} (h : RowOf w v n size P) (hf : ∀ j, j < n → (f j).length = size) (hp : ∀ b o i, i < n → P b o i → ∀ j u, j < size → (f i)[j]? = some u → w.cell? ⟨b, o + j, none⟩ = some u) : SliceIn w v n size (rowsOf f n) := by
  obtain ⟨a, cap, h1, h2, h3, h4, h5⟩ := h
  refine ⟨rowsOf_len n hf, a, cap, h1, h2, h3, h4, fun h0 => ?_⟩
  obtain ⟨b, off, e, hb, h6⟩ := h5 h0
  refine ⟨b, off, e, hb, fun j u hu => ?_⟩
  have hj : j < n * size := by
    have := (List.getElem?_eq_some_iff.1 hu).1
    rwa [rowsOf_len n hf] at this
  have hs : 0 < size := by
    rcases Nat.eq_zero_or_pos size with h | h
    · subst h; omega
    · exact h
  have hi : j / size < n := Nat.div_lt_of_lt_mul (by rw [Nat.mul_comm]; exact hj)
  have hm : j % size < size := Nat.mod_lt _ hs
  have e : j = j / size * size + j % size := by rw [Nat.mul_comm]; exact (Nat.div_add_mod j size).symm
  rw [e, rowsOf_get hf _ _ hi hm] at hu
  have := hp _ _ _ hi (h6 _ hi) _ u hm hu
  rwa [Nat.add_assoc, ← e] at this
theorem params_slice {w : World} {v : Value} {l : List Pm} (h : RowOf w v l.length 3 (fun b o k => ∀ y, l[k]? = some y → PmAt w b o y)) : SliceIn w v l.length 3 (rowsOf (pmRow l) l.length) := by
  refine h.slice (pmRow_len l) fun b o i hi hp j u hj hu => ?_
  have hx := List.getElem?_eq_getElem hi
  rw [pmRow_at hx] at hu
  obtain ⟨c0, c1, c2⟩ := hp _ hx
  match j, hj with
  | 0, _ => cases hu; simpa using c0
  | 1, _ => cases hu; exact c1
  | 2, _ => cases hu; exact c2
theorem rows_one {f : Nat → List Value} {n : Nat} (h : ∀ j, j < n → ∀ u ∈ f j, u.oneCell' = true) : ∀ u ∈ rowsOf f n, u.oneCell' = true := by
  induction n with
  | zero => intro u hu; simp [rowsOf] at hu
  | succ n ih =>
    intro u hu
    rw [rowsOf, List.mem_append] at hu
    rcases hu with hu | hu
    · exact ih (fun j hj => h j (by omega)) u hu
    · exact h n (by omega) u hu
theorem pmRow_one (l : List Pm) (j : Nat) : ∀ u ∈ pmRow l j, u.oneCell' = true := by
  intro u hu
  unfold pmRow at hu
  split at hu
  · simp at hu; rcases hu with rfl | rfl | rfl <;> rfl
  · simp at hu
/-- One function's parts, in memory of their own in [q, m1). -/
structure OwnFn (w : World) (x : Fn) (vp vb : Value) (q m0 m1 gp cp : Nat) : Prop where
  ord : q ≤ gp ∧ gp < m0 ∧ m0 ≤ m1
  vp : vp = .slice (some ⟨gp, 0, none⟩) x.params.length cp
  own : w.ownsRow q 63 3 (.slice (some ⟨gp, 0, none⟩) (x.params.length + 1) cp) (x.params.length + 1) (rowsOf (pmRow x.params) x.params.length ++ sparePm)
  body : OwnSts w m0 m1 x.body vb
theorem OwnFn.apart {w w' : World} {x : Fn} {vp vb : Value} {q m0 m1 gp cp : Nat} (h : OwnFn w x vp vb q m0 m1 gp cp) (hs : m1 ≤ w'.heap.size) (hb : ∀ k, q ≤ k → k < m1 → w'.heap[k]? = w.heap[k]?) : OwnFn w' x vp vb q m0 m1 gp cp := by
  have o := h.ord
  exact ⟨h.ord, h.vp, ownsRow_at h.own (hb gp (by omega) (by omega)), h.body.apart hs fun k _ _ => hb k (by omega) (by omega)⟩
/-- The first i functions are copied; behind them lies xs. -/
structure FnMade (w : World) (lo : Nat) (l : List Fn) (i g cap k : Nat) (xs : List Value) (vp vb : Nat → Value) (q m0 m1 gp cp : Nat → Nat) : Prop where
  hg : lo ≤ g ∧ g < w.heap.size
  own : w.ownsRow lo 40 3 (.slice (some ⟨g, 0, none⟩) (i + k) cap) (i + k) (rowsOf (fnRow l vp vb) i ++ xs)
  rng : ∀ j, j < i → lo ≤ q j ∧ m1 j ≤ w.heap.size ∧ ¬ (q j ≤ g ∧ g < m1 j)
  apart : ∀ j k, j < k → k < i → m1 j ≤ q k
  each : ∀ (j : Nat) x, j < i → l[j]? = some x → OwnFn w x (vp j) (vb j) (q j) (m0 j) (m1 j) (gp j) (cp j)
theorem FnMade.next {wr w7 : World} {lo : Nat} {l : List Fn} {i g cap : Nat} {vp vb : Nat → Value} {q m0 m1 gp cp : Nat → Nat} (h : FnMade wr lo l i g cap 0 [] vp vb q m0 m1 gp cp) {y : Fn} (hy : l[i]? = some y)
    (hb : ∀ k, lo ≤ k → k < wr.heap.size → k ≠ g → w7.heap[k]? = wr.heap[k]?) {xp xb : Value} {xq x0 x1 xg xc : Nat} (hn : OwnFn w7 y xp xb xq x0 x1 xg xc) (h1 : wr.heap.size ≤ xq) (h3 : x1 ≤ w7.heap.size)
    {g7 cap7 : Nat} (hrow : w7.ownsRow lo 40 3 (.slice (some ⟨g7, 0, none⟩) (i + 1) cap7) (i + 1) (rowsOf (fnRow l vp vb) i ++ [.string y.name, xp, xb])) (hg : lo ≤ g7 ∧ g7 < w7.heap.size) (hg7 : g7 = g ∨ x1 ≤ g7) :
    FnMade w7 lo l (i + 1) g7 cap7 0 [] (setAt vp i xp) (setAt vb i xb) (setAt q i xq) (setAt m0 i x0) (setAt m1 i x1) (setAt gp i xg) (setAt cp i xc) := by
  have hgr := h.hg
  have o := hn.ord
  refine ⟨hg, ?_, ?_, ?_, ?_⟩
  · rw [rowsOf, fnRow_at hy, rowsOf_ext (g := fnRow l vp vb) i fun j hj => by unfold fnRow; simp only [setAt_other _ _ _ (show ¬ j = i by omega)]]
    simp only [setAt_same, List.append_nil]
    exact hrow
  · intro j hj
    by_cases e : j = i
    · subst e; simp only [setAt_same]; refine ⟨by omega, h3, ?_⟩; omega
    · simp only [setAt_other _ _ _ e]
      obtain ⟨r1, r3, r4⟩ := h.rng j (by omega)
      refine ⟨r1, by omega, ?_⟩
      rcases hg7 with rfl | hg7
      · exact r4
      · omega
  · intro j k hjk hk
    by_cases e : k = i
    · subst e; simp only [setAt_same, setAt_other _ _ _ (Nat.ne_of_lt hjk)]
      have := (h.rng j hjk).2.1; omega
    · simp only [setAt_other _ _ _ e, setAt_other _ _ _ (show ¬ j = i by omega)]; exact h.apart j k hjk (by omega)
  · intro j x hj hx
    by_cases e : j = i
    · subst e; rw [hy] at hx; cases hx; simp only [setAt_same]; exact hn
    · simp only [setAt_other _ _ _ e]
      obtain ⟨r1, r3, r4⟩ := h.rng j (by omega)
      exact (h.each j x (by omega) hx).apart (by omega) fun k k1 k2 => hb k (by omega) (by omega) fun e => r4 (by omega)
/-- All functions are copied and the spare one stands behind them. -/
theorem FnMade.all {wr w7 : World} {lo : Nat} {l : List Fn} {i g cap k : Nat} {xs : List Value} {vp vb : Nat → Value} {q m0 m1 gp cp : Nat → Nat} (h : FnMade wr lo l i g cap k xs vp vb q m0 m1 gp cp)
    (hb : ∀ k, lo ≤ k → k < wr.heap.size → k ≠ g → w7.heap[k]? = wr.heap[k]?) (hs : wr.heap.size ≤ w7.heap.size)
    {g7 cap7 k' : Nat} {xs' : List Value} (hrow : w7.ownsRow lo 40 3 (.slice (some ⟨g7, 0, none⟩) (i + k') cap7) (i + k') (rowsOf (fnRow l vp vb) i ++ xs')) (hg : lo ≤ g7 ∧ g7 < w7.heap.size) (hg7 : g7 = g ∨ wr.heap.size ≤ g7) :
    FnMade w7 lo l i g7 cap7 k' xs' vp vb q m0 m1 gp cp := by
  refine ⟨hg, hrow, fun j hj => ?_, h.apart, fun j x hj hx => ?_⟩
  · obtain ⟨r1, r3, r4⟩ := h.rng j hj
    refine ⟨r1, by omega, ?_⟩
    rcases hg7 with rfl | hg7
    · exact r4
    · omega
  · obtain ⟨r1, r3, r4⟩ := h.rng j hj
    exact (h.each j x hj hx).apart (by omega) fun k k1 k2 => hb k (by have := (h.each j x hj hx).ord; omega) (by omega) fun e => r4 (by omega)
/-- A program in memory of its own: the thresholds in a block of [lo, mid), the functions from mid on. -/
structure OwnPg (w : World) (lo mid : Nat) (p : Pg) (gw cw g cap : Nat) (vp vb : Nat → Value) (q m0 m1 gp cp : Nat → Nat) : Prop where
  hw : lo ≤ gw ∧ gw < mid ∧ mid ≤ w.heap.size
  widen : w.ownsRow lo 2 1 (.slice (some ⟨gw, 0, none⟩) (p.widen.length + 1) cw) (p.widen.length + 1) (intVs p.widen ++ [.int .i64 (-77)])
  fns : FnMade w mid p.funcs p.funcs.length g cap 1 spareFn vp vb q m0 m1 gp cp
theorem ownsRow_take {w : World} {lo : Nat} {e : TypeId} {size g n m cap : Nat} {xs ys : List Value} (h : w.ownsRow lo e size (.slice (some ⟨g, 0, none⟩) (n + m) cap) (n + m) (xs ++ ys)) (hx : xs.length = n * size) : SliceIn w (.slice (some ⟨g, 0, none⟩) n cap) n size xs := by
  obtain ⟨h1, a, c, h2, h3, h4, h5, h6⟩ := SliceIn.of_owns h
  cases h2
  refine ⟨hx, _, _, rfl, by omega, h4, h5, fun h0 => ?_⟩
  obtain ⟨b, off, e1, e2, e3⟩ := h6 (by omega)
  exact ⟨b, off, e1, e2, fun j u hu => e3 j u (by rw [List.getElem?_append_left (List.getElem?_eq_some_iff.1 hu).1]; exact hu)⟩
theorem OwnFn.reads {w : World} {x : Fn} {vp vb : Value} {q m0 m1 gp cp : Nat} (h : OwnFn w x vp vb q m0 m1 gp cp) : RowOf w vp x.params.length 3 (fun b o k => ∀ y, x.params[k]? = some y → PmAt w b o y) ∧ StsIn w x.body vb := by
  refine ⟨?_, h.body.reads⟩
  obtain ⟨k1, k2, k3, k4⟩ := ownsRow_rowOf h.own (pmRow_len x.params)
  rw [h.vp]
  refine ⟨some ⟨gp, 0, none⟩, cp, rfl, k1, k2, by simp, fun _ => ⟨gp, 0, rfl, k3, fun i hi y hy => ?_⟩⟩
  have k : ∀ (j : Nat) u, j < 3 → ([.string y.name, .int .i64 y.lo, .int .i64 y.hi] : List Value)[j]? = some u → w.cell? ⟨gp, 0 + i * 3 + j, none⟩ = some u := fun j u hj hu => by
    rw [Nat.zero_add]; exact k4 i j u hi hj (by rw [pmRow_at hy]; exact hu)
  exact ⟨k 0 _ (by decide) rfl, k 1 _ (by decide) rfl, k 2 _ (by decide) rfl⟩
theorem OwnPg.reads {w : World} {lo mid : Nat} {p : Pg} {gw cw g cap : Nat} {vp vb : Nat → Value} {q m0 m1 gp cp : Nat → Nat} (h : OwnPg w lo mid p gw cw g cap vp vb q m0 m1 gp cp) :
    PgIn w p (.slice (some ⟨gw, 0, none⟩) p.widen.length cw) (.slice (some ⟨g, 0, none⟩) p.funcs.length cap) vp vb := by
  refine ⟨ownsRow_take h.widen (by simp [intVs]), ?_, fun i x hx => (h.fns.each i x (List.getElem?_eq_some_iff.1 hx).1 hx).reads.1, fun i x hx => (h.fns.each i x (List.getElem?_eq_some_iff.1 hx).1 hx).reads.2⟩
  obtain ⟨k1, k2, k3, k4⟩ := ownsRow_rowOf h.fns.own (fnRow_len p.funcs vp vb)
  refine ⟨some ⟨g, 0, none⟩, cap, rfl, k1, k2, by simp, fun _ => ⟨g, 0, rfl, k3, fun i hi y hy => ?_⟩⟩
  have k : ∀ (j : Nat) u, j < 3 → ([.string y.name, vp i, vb i] : List Value)[j]? = some u → w.cell? ⟨g, 0 + i * 3 + j, none⟩ = some u := fun j u hj hu => by
    rw [Nat.zero_add]; exact k4 i j u hi hj (by rw [fnRow_at hy]; exact hu)
  exact ⟨k 0 _ (by decide) rfl, k 1 _ (by decide) rfl, k 2 _ (by decide) rfl⟩
end Go.Proofs.Ytgcplcffejbniaa

/- R2.Copy: a program in memory of its own. -/
namespace Go.Proofs.Ytgcplcffejbniaa
open Go.RowKit

/-- What Copy answers: a program of its own, from lo on. -/
def OwnsPg (w : World) (lo : Nat) (p : Pg) (v : Value) : Prop := ∃ mid gw cw g cap vp vb q m0 m1 gp cp, v = pgV (.slice (some ⟨gw, 0, none⟩) p.widen.length cw) (.slice (some ⟨g, 0, none⟩) p.funcs.length cap) ∧ p.widen.length < cw ∧ p.funcs.length < cap ∧ OwnPg w lo mid p gw cw g cap vp vb q m0 m1 gp cp
def Pg.small (p : Pg) : Prop := p.widen.length ≤ 2000000 ∧ p.funcs.length ≤ 2000000 ∧ ∀ f ∈ p.funcs, f.params.length ≤ 2000000 ∧ St.totals f.body ≤ 2000000
/-- The boxes of Copy: the program's at B, the result's at B + 1, out's at B + 2. -/
structure Boxes (w : World) (B : Nat) (vw vf ow of : Value) : Prop where
  c0 : w.cell? ⟨B, 0, none⟩ = some vw
  c1 : w.cell? ⟨B, 1, none⟩ = some vf
  d0 : w.cell? ⟨B + 2, 0, none⟩ = some ow
  d1 : w.cell? ⟨B + 2, 1, none⟩ = some of
  e0 : w.cell? ⟨B + 1, 0, none⟩ = some (.slice none 0 0)
  e1 : w.cell? ⟨B + 1, 1, none⟩ = some (.slice none 0 0)
  fd : ∀ j, w.frozen? ⟨B + 2, j, none⟩ = false
  fe : ∀ j, w.frozen? ⟨B + 1, j, none⟩ = false
theorem Boxes.later {w w' : World} {B : Nat} {vw vf ow of : Value} (h : Boxes w B vw vf ow of) {C : Nat} (hb : Below C w w') (hC : B + 2 < C) : Boxes w' B vw vf ow of :=
  have k := fun b j (h : b < C) => hb.cell (p := ⟨b, j, none⟩) h
  have f := fun b j (h : b < C) => hb.frozen (p := ⟨b, j, none⟩) h
  ⟨(k _ _ (by omega)).trans h.c0, (k _ _ (by omega)).trans h.c1, (k _ _ hC).trans h.d0, (k _ _ hC).trans h.d1, (k _ _ (by omega)).trans h.e0, (k _ _ (by omega)).trans h.e1, fun j => (f _ j hC).trans (h.fd j), fun j => (f _ j (by omega)).trans (h.fe j)⟩
theorem Boxes.set0 {w : World} {B : Nat} {vw vf ow of : Value} (h : Boxes w B vw vf ow of) (v : Value) : Boxes (w.setCell ⟨B + 2, 0, none⟩ v) B vw vf v of := by
  obtain ⟨c0, c1, d0, d1, e0, e1, fd, fe⟩ := h
  constructor <;> simp [cell_set, *]
theorem Boxes.set1 {w : World} {B : Nat} {vw vf ow of : Value} (h : Boxes w B vw vf ow of) (v : Value) : Boxes (w.setCell ⟨B + 2, 1, none⟩ v) B vw vf ow v := by
  obtain ⟨c0, c1, d0, d1, e0, e1, fd, fe⟩ := h
  constructor <;> simp [cell_set, *]
/-- The copy of function x is under way: its box is at D. -/
structure FMid (wr w : World) (D : Nat) (x : Fn) (vp vb : Value) : Prop where
  below : Below wr.heap.size wr w
  st : FnCells w D 0 x vp vb
  fr : ∀ j, w.frozen? ⟨D, j, none⟩ = false
  lt : wr.heap.size ≤ D ∧ D < w.heap.size
theorem FMid.later {wr w w' : World} {D : Nat} {x : Fn} {vp vb : Value} (h : FMid wr w D x vp vb) {B : Nat} (hb : Below B w w') (hB : D < B) : FMid wr w' D x vp vb :=
  ⟨h.below.trans (hb.mono (by have := h.lt; omega)), h.st.later hb hB, fun j => (hb.frozen (p := ⟨D, j, none⟩) hB).trans (h.fr j), h.lt.1, Nat.lt_of_lt_of_le h.lt.2 hb.size⟩
theorem FMid.oth {wr w w' : World} {D : Nat} {x : Fn} {vp vb vp' vb' : Value} (h : FMid wr w D x vp vb) (hO : Oth (· = D) w w') (hf : ∀ j, w'.frozen? ⟨D, j, none⟩ = w.frozen? ⟨D, j, none⟩) (hs : FnCells w' D 0 x vp' vb') : FMid wr w' D x vp' vb' :=
  ⟨h.below.trans (hO.below h.below.size fun k e => by have := h.lt; omega), hs, fun j => (hf j).trans (h.fr j), h.lt.1, Nat.lt_of_lt_of_le h.lt.2 hO.size⟩
theorem FnCells.set1 {w : World} {D : Nat} {x : Fn} {vp vb : Value} (h : FnCells w D 0 x vp vb) (v : Value) : FnCells (w.setCell ⟨D, 1, none⟩ v) D 0 x v vb := by
  obtain ⟨c0, c1, c2⟩ := h
  simp only [Nat.zero_add] at *
  constructor <;> simp [cell_set, *]
theorem FnCells.set2 {w : World} {D : Nat} {x : Fn} {vp vb : Value} (h : FnCells w D 0 x vp vb) (v : Value) : FnCells (w.setCell ⟨D, 2, none⟩ v) D 0 x vp v := by
  obtain ⟨c0, c1, c2⟩ := h
  simp only [Nat.zero_add] at *
  constructor <;> simp [cell_set, *]
theorem below_app {w w' : World} {e : TypeId} {cs : Array Value} {S : Option Nat} (h : (w.alloc (.cells cs e)).grownBy w' S) {C : Nat} {w0 : World} (hb : Below C w0 w) (hC : C ≤ w.heap.size) (hS : ∀ k, S = some k → C ≤ k) : Below C w0 w' :=
  (hb.alloc hC _).grown h (by rw [World.size_alloc]; omega) hS
theorem app_block {w w' : World} {e : TypeId} {cs : Array Value} {g n c : Nat} (h : (w.alloc (.cells cs e)).grownBy w' (Value.slice (some ⟨g, 0, none⟩) n c).ownBlock) : ∀ q, q < w.heap.size → q ≠ g → w'.heap[q]? = w.heap[q]? := fun q h1 h2 =>
  (h.block q (by rw [World.size_alloc]; omega) (fun e => h2 (by simpa [Value.ownBlock] using e))).trans (((Below.refl w.heap.size w).alloc (Nat.le_refl _) _).block q h1)
theorem app_fresh {w : World} {e : TypeId} {cs : Array Value} {g n c g' n' c' : Nat} (h : Fresh (w.alloc (.cells cs e)) (.slice (some ⟨g, 0, none⟩) n c) (.slice (some ⟨g', 0, none⟩) n' c')) : g' = g ∨ w.heap.size ≤ g' := by
  by_cases e : g' = g
  · exact .inl e
  · exact .inr (Nat.le_of_not_lt fun hl => h g' (by rw [World.size_alloc]; omega) (fun h2 => e (by simpa [Value.ownBlock] using h2.symm)) rfl)
theorem app_size {w w' : World} {e : TypeId} {cs : Array Value} {S : Option Nat} (h : (w.alloc (.cells cs e)).grownBy w' S) : w.heap.size < w'.heap.size := by
  have := h.size
  rw [World.size_alloc] at this
  omega
set_option maxRecDepth 100000 in
set_option maxHeartbeats 4000000 in
theorem copy_any (p : Pg) (vw vf : Value) (vp vb : Nat → Value) (w0 : World) (h : PgIn w0 p vw vf vp vb) (hS : p.small) (W : World) (hB : Below w0.heap.size w0 W) :
    Calls Try.prog 20 #[pgV vw vf] W (fun E W' => ∃ v, E = .returned v ∧ Below W.heap.size W W' ∧ OwnsPg W' W.heap.size p v) := by
  obtain ⟨hw, hr, hpp, hbb⟩ := h
  obtain ⟨aw, cw, rfl, hw1, hw2⟩ : ∃ aw cw, vw = .slice aw p.widen.length cw ∧ p.widen.length ≤ cw ∧ cw ≤ maxLen := by
    obtain ⟨_, a, c, e, h1, h2, _⟩ := hw
    exact ⟨a, c, e, h1, h2⟩
  obtain ⟨af, cf, rfl, hf1, hf2⟩ := hr.form
  obtain ⟨m, hm⟩ : ∃ m, m = p.widen.length := ⟨_, rfl⟩
  obtain ⟨n, hn⟩ : ∃ n, n = p.funcs.length := ⟨_, rfl⟩
  have Hlen := Lib.hid (And.intro hm hn)
  have Hw : Hid (SliceIn W (.slice aw m cw) m 1 (intVs p.widen)) := by rw [hm]; exact SliceIn.later hw hB
  have Hr : Hid (RowOf w0 (.slice af n cf) n 3 (fun b o i => ∀ x, p.funcs[i]? = some x → FnCells w0 b o x (vp i) (vb i))) := by rw [hn]; exact hr
  have Hp := Lib.hid (And.intro hpp hbb)
  have HS := Lib.hid hS
  have HB := Lib.hid hB
  rw [← hm, ← hn]
  have hm2 : m ≤ 2000000 := by rw [hm]; exact hS.1
  have hn2 : n ≤ 2000000 := by rw [hn]; exact hS.2.1
  obtain ⟨B, hBe⟩ : ∃ B, B = W.heap.size := ⟨_, rfl⟩
  obtain ⟨Wa, hWa⟩ : ∃ w : World, w = ((W.alloc (.cells #[.slice aw m cw, .slice af n cf] 26)).alloc (.cells #[.slice none 0 0, .slice none 0 0] 26)).alloc (.cells #[.slice none 0 0, .slice none 0 0] 26) := ⟨_, rfl⟩
  have hba : Below W.heap.size W Wa := by rw [hWa]; exact (((Below.refl _ _).alloc (Nat.le_refl _) _).alloc (by simp) _).alloc (by simp; omega) _
  have hza : Wa.heap.size = B + 3 := by rw [hWa, hBe]; simp
  have hbx : Boxes Wa B (.slice aw m cw) (.slice af n cf) (.slice none 0 0) (.slice none 0 0) := by
    have q1 : ∀ (w : World) (o : Obj) b j, b < w.heap.size → (w.alloc o).cell? ⟨b, j, none⟩ = w.cell? ⟨b, j, none⟩ := fun w o b j h => ((Below.refl w.heap.size w).alloc (Nat.le_refl _) o).cell (p := ⟨b, j, none⟩) h
    have q2 : ∀ (w : World) (o : Obj) b j, b < w.heap.size → (w.alloc o).frozen? ⟨b, j, none⟩ = w.frozen? ⟨b, j, none⟩ := fun w o b j h => ((Below.refl w.heap.size w).alloc (Nat.le_refl _) o).frozen (p := ⟨b, j, none⟩) h
    rw [hWa, hBe]
    refine ⟨?_, ?_, ?_, ?_, ?_, ?_, fun j => ?_, fun j => ?_⟩
    · rw [q1 _ _ _ _ (by simp; omega), q1 _ _ _ _ (by simp)]; exact World.cell?_alloc_at _ _ _ _ rfl
    · rw [q1 _ _ _ _ (by simp; omega), q1 _ _ _ _ (by simp)]; exact World.cell?_alloc_at _ _ _ _ rfl
    · exact World.cell?_alloc_at _ _ _ _ (by simp)
    · exact World.cell?_alloc_at _ _ _ _ (by simp)
    · rw [q1 _ _ _ _ (by simp)]; exact World.cell?_alloc_at _ _ _ _ (by simp)
    · rw [q1 _ _ _ _ (by simp)]; exact World.cell?_alloc_at _ _ _ _ (by simp)
    · exact World.frozen?_alloc_at _ _ _ _ (by simp)
    · rw [q2 _ _ _ _ (by simp)]; exact World.frozen?_alloc_at _ _ _ _ (by simp)
  obtain ⟨iw, hi0, hz0, hz1, hz2⟩ := info_parts Try.infoI64
  obtain ⟨Wb, hmk, hownb, hgrb⟩ := run_make_own Wa (B + 3) 23 2 iw _ 1 Try.underlying23 hi0 hz0 hz1 .i64 .i64 (m + 1) (by rw [hz2]; omega) (by unfold maxLen; omega) (by omega)
  rw [show (((m + 1 : Nat)) : Int) = (m : Int) + 1 by omega] at hmk
  have hbb : Below (B + 3) Wa Wb := (Below.refl _ _).grown hgrb (by omega) (by intro k e; cases e)
  have hgb : B + 3 < Wb.heap.size := Nat.lt_of_le_of_lt (by omega) (World.ownsRow.lt hownb Wa.heap.size rfl).2
  have Hba := Lib.hid (And.intro hba (And.intro hza hbx))
  have Hb := Lib.hid (And.intro hownb hbb)
  have HWa := Lib.hid (And.intro hWa hBe)
  have hBW : W.heap.size ≤ B ∧ B ≤ W.heap.size := by omega
  obtain ⟨c0, c1, d0, d1, e0, e1, fd, fe⟩ := hbx
  unfold pgV
  clear hw hr hpp hbb hS hB hm hn hw1 hw2 hf1 hf2 hi0 hz0 hz1 hz2 hownb hgrb hWa hBe hba hza fd fe d0 d1 e0 e1
  go_enter Try.func20, Try.ntmps20
  go_upto_region 2 with (fail)
  rw [← HWa.out.1, ← HWa.out.2]
  go_upto_region 3 with (fail)
  clear hmk c0 c1
  have hbxb := Hba.out.2.2.later Hb.out.2 (by omega)
  obtain ⟨c0, c1, d0, d1, e0, e1, fd, fe⟩ := hbxb
  clear c1 d0 d1 e0 e1 fd fe
  have hownb := Hb.out.1
  have hsrc : SliceIn Wb (.slice aw m cw) m 1 (intVs p.widen) := Hw.out.later (Hba.out.1.trans (Hb.out.2.mono (by omega)))
  have hone : ∀ u ∈ intVs p.widen, u.oneCell' = true := by
    intro u hu
    unfold intVs at hu
    obtain ⟨z, _, rfl⟩ := List.mem_map.1 hu
    rfl
  have hB3 : B + 3 ≤ Wb.heap.size := Nat.le_of_lt hgb
  have hmx : 0 + m ≤ maxLen := by unfold maxLen; omega
  have hby : (0 + m) * 8 ≤ 140737488355328 := by omega
  go_upto_region 4 with (at_builtin; refine append_gen rfl _ _ 23 rfl Try.underlying23 Try.infoI64 rfl (by decide) (B + 3) _ 0 [] rfl hownb (.slice aw m cw) m (intVs p.widen) rfl hsrc hone hmx hby hB3 ?_; intro v5 w5 hown5 hgr5 hfr5 hbl5)
  have hb5 : Below (B + 3) Wb w5 := hbl5 _ _ (Below.refl _ _) (Nat.le_refl _)
  simp only [Nat.zero_add, List.nil_append] at hown5
  have hB5 : B + 3 ≤ w5.heap.size := Nat.le_trans hB3 hb5.size
  have Hb5 : Hid (Below (B + 3) Wa w5) := Hb.out.2.trans hb5
  have hm5 : m ≤ 5000000 := by omega
  clear hfr5 hbl5 hgr5 hownb hsrc hone hmx hby hb5 c0
  go_upto_region 5 with (at_builtin; refine append_one rfl _ _ 23 rfl Try.underlying23 Try.infoI64 rfl (by decide) (by decide) (B + 3) v5 m (intVs p.widen) rfl hown5 [.int .i64 (-77)] rfl (by intro u hu; simp at hu; subst hu; rfl) rfl hm5 hB5 ?_; intro v6 w6 hown6 hgr6 hfr6)
  obtain ⟨g6, c6, rfl, hg6, hg6', hc6⟩ := row_one hown6 (Nat.succ_pos m)
  have hb6 : Below (B + 3) Wa w6 := below_app hgr6 Hb5.out hB5 fun k hk => (World.ownsRow.lt hown5 k hk).1
  have hbx6 := Hba.out.2.2.later hb6 (by omega)
  have H6 := Lib.hid (And.intro hown6 (And.intro hb6 hbx6))
  have hs6 : B + 3 ≤ w6.heap.size := by have := app_size hgr6; omega
  clear hown6 hb6 hgr6 hfr6 hown5 hm5
  obtain ⟨c0, c1, d0, d1, e0, e1, fd, fe⟩ := hbx6
  have fd0 := fd 0
  have hm6 : m ≤ c6 := by omega
  clear c1 d1 e0 e1 fe fd
  go_upto_region 6 with (fail)
  obtain ⟨W7, hW7⟩ : ∃ w : World, w = w6.setCell ⟨B + 2, 0, none⟩ (.slice (some ⟨g6, 0, none⟩) m c6) := ⟨_, rfl⟩
  rw [← hW7]
  have hO7 : Oth (· = B + 2) w6 W7 := by rw [hW7]; exact (Oth.refl (· = B + 2) w6).set (p := ⟨B + 2, 0, none⟩) rfl _
  have hbx7 : Boxes W7 B (.slice aw m cw) (.slice af n cf) (.slice (some ⟨g6, 0, none⟩) m c6) (.slice none 0 0) := by rw [hW7]; exact H6.out.2.2.set0 _
  have hown7 : W7.ownsRow (B + 3) 2 1 (.slice (some ⟨g6, 0, none⟩) (m + 1) c6) (m + 1) (intVs p.widen ++ [.int .i64 (-77)]) := ownsRow_at H6.out.1 (hO7.block g6 hg6' (by show ¬ g6 = B + 2; omega))
  have hz7 : W7.heap.size = w6.heap.size := by rw [hW7]; simp only [size_set]
  have hb7 : Below W.heap.size W W7 := (Hba.out.1.trans (H6.out.2.1.mono (by omega))).trans (hO7.below (by omega) fun k e => by omega)
  obtain ⟨M, hM⟩ : ∃ M, M = W7.heap.size := ⟨_, rfl⟩
  have hMW : M ≤ W7.heap.size ∧ W7.heap.size ≤ M := by omega
  have hMB : B + 3 ≤ M ∧ g6 < M ∧ B ≤ M := by omega
  have H7 := Lib.hid (And.intro hown7 (And.intro hb7 hbx7))
  obtain ⟨c0', c1, d0', d1, e0, e1, fd, fe⟩ := hbx7
  clear hO7 hW7 hz7 hown7 hb7 hs6 hg6' c0 d0 fd0 c0' d0' d1 e0 e1 fd fe H6 Hb5 Hb
  obtain ⟨iw, hi0, hz0, hz1, hz2⟩ := info_parts Try.infoFn
  obtain ⟨W8, hmk, hown8, hgr8⟩ := run_make_own W7 M 24 40 iw _ 3 Try.underlying24 hi0 hz0 hz1 .i64 .i64 (n + 1) (by rw [hz2]; omega) (by unfold maxLen; omega) hMW.1
  rw [show (((n + 1 : Nat)) : Int) = (n : Int) + 1 by omega] at hmk
  have hb8 : Below M W7 W8 := (Below.refl _ _).grown hgr8 hMW.1 (by intro k e; cases e)
  have hg8 : M < W8.heap.size := Nat.lt_of_le_of_lt hMW.1 (World.ownsRow.lt hown8 W7.heap.size rfl).2
  have H8 := Lib.hid (And.intro hown8 hb8)
  have HM := Lib.hid hM
  clear hi0 hz0 hz1 hz2 hgr8 hown8 hb8 hM
  go_upto_region 7 with (fail)
  rw [← HM.out]
  clear hmk c1
  go_wp2_with fail
  have hm0 : FnMade W8 M p.funcs 0 M (n + 1) 0 [] (fun _ => .bool false) (fun _ => .bool false) (fun _ => 0) (fun _ => 0) (fun _ => 0) (fun _ => 0) (fun _ => 0) :=
    ⟨⟨Nat.le_refl _, hg8⟩, by have := H8.out.1; rw [← HM.out] at this; simpa [rowsOf] using this, fun j h => absurd h (Nat.not_lt_zero _), fun j k h1 h2 => absurd h2 (Nat.not_lt_zero _), fun j x h => absurd h (Nat.not_lt_zero _)⟩
  have Hm0 := Lib.hid hm0
  clear hm0
  go_loopg [5, 6] n (fun gk ov iv wx => ∃ (i g cap : Nat) (xp xb : Nat → Value) (q m0 m1 gp cp : Nat → Nat), gk = n - i ∧ ov = .slice (some ⟨g, 0, none⟩) i cap ∧ iv = .int .i64 (i : Int) ∧ i ≤ n ∧ FnMade wx M p.funcs i g cap 0 [] xp xb q m0 m1 gp cp ∧ Below M W7 wx)
  case atStart => exact ⟨0, M, n + 1, _, _, _, _, _, _, _, rfl, rfl, rfl, Nat.zero_le _, Hm0.out, H8.out.2⟩
  case round =>
    obtain ⟨i, g, cp, xp, xb, q, m0, m1, gp, cpp, hgk, rfl, rfl, hi, hmd, hbw⟩ := hrel
    have Hg := Lib.hid hgk
    have Hm := Lib.hid (And.intro hmd hbw)
    have hgr := hmd.hg
    have hsz := hbw.size
    have HBr : Hid (Below W.heap.size W wr) := H7.out.2.1.trans (hbw.mono (by omega))
    have HB0 : Hid (Below w0.heap.size w0 wr) := HB.out.trans (HBr.out.mono HB.out.size)
    have Hbx := Lib.hid (H7.out.2.2.later hbw (by omega))
    clear hgk hmd hbw
    obtain ⟨c0, c1, d0, d1, e0, e1, fd, fe⟩ := Hbx.out
    clear c0 d0 d1 e0 e1 fd fe
    by_cases hin : i < n
    · obtain ⟨x, hx⟩ : ∃ x, p.funcs[i]? = some x := ⟨_, List.getElem?_eq_getElem (by rw [← Hlen.out.2]; exact hin)⟩
      obtain ⟨b, off, rfl, hb, hP⟩ := Hr.out.at (i := i) hin
      have hst := (hP x hx).later HB0.out hb
      obtain ⟨ap, ca, hvp, hca1, hca2⟩ := (Hp.out.1 i x hx).form
      obtain ⟨ab, cb, hvb, -⟩ := (Hp.out.2 i x hx).form
      obtain ⟨np, hnp⟩ : ∃ n, n = x.params.length := ⟨_, rfl⟩
      obtain ⟨nb, hnb⟩ : ∃ n, n = x.body.length := ⟨_, rfl⟩
      rw [hvp, hvb, ← hnp, ← hnb] at hst
      have hmem : x ∈ p.funcs := List.mem_of_getElem? hx
      have hnp2 : np ≤ 2000000 := by rw [hnp]; exact (HS.out.2.2 x hmem).1
      have HT : Hid (St.totals x.body ≤ 2000000) := (HS.out.2.2 x hmem).2
      obtain ⟨D, hD⟩ : ∃ D, D = wr.heap.size := ⟨_, rfl⟩
      obtain ⟨W4, hW4⟩ : ∃ W4, W4 = wr.alloc (.cells #[.string x.name, .slice ap np ca, .slice ab nb cb] 40) := ⟨_, rfl⟩
      have hF4 : FMid wr W4 D x (.slice ap np ca) (.slice ab nb cb) := by
        refine ⟨by rw [hW4]; exact (Below.refl _ _).alloc (Nat.le_refl _) _, by rw [hW4, hD]; constructor <;> exact World.cell?_alloc_at _ _ _ _ rfl, fun j => by rw [hW4, hD]; exact World.frozen?_alloc_at _ _ _ _ rfl, by omega, by rw [hW4, World.size_alloc]; omega⟩
      have hz4 : W4.heap.size = D + 1 := by rw [hW4, World.size_alloc, hD]
      have HF4 := Lib.hid hF4
      have HW4 := Lib.hid (And.intro hW4 (And.intro hD hz4))
      have HBo4 := Hbx.out.later hF4.below (by omega)
      obtain ⟨i0, i1, i2⟩ := hst
      have Hx := Lib.hid hx
      have Hva := Lib.hid (And.intro hvp hvb)
      have Hl := Lib.hid (And.intro hnp hnb)
      have hDr : wr.heap.size ≤ D ∧ D ≤ wr.heap.size := by omega
      have hz4' : D + 1 ≤ W4.heap.size ∧ W4.heap.size ≤ D + 1 := by omega
      clear hF4 hW4 hD hx hvp hvb hnp hnb hP hz4 hmem hca1 hca2
      go_upto_region 11 with (fail)
      rw [← HW4.out.1, ← HW4.out.2.1]
      clear i0 i1 i2 c1
      obtain ⟨j0, j1, j2⟩ := HF4.out.st
      simp only [Nat.zero_add] at j0 j1 j2
      obtain ⟨ip, hi0, hz0, hz1, hz2⟩ := info_parts Try.infoPm
      obtain ⟨W5, hmk, hown5, hgr5⟩ := run_make_own W4 (D + 1) 37 63 ip _ 3 Try.underlying37 hi0 hz0 hz1 .i64 .i64 (np + 1) (by rw [hz2]; omega) (by unfold maxLen; omega) hz4'.1
      rw [show (((np + 1 : Nat)) : Int) = (np : Int) + 1 by omega] at hmk
      have hb5 : Below (D + 1) W4 W5 := (Below.refl _ _).grown hgr5 hz4'.1 (by intro k e; cases e)
      have hg5 : D + 1 < W5.heap.size := Nat.lt_of_le_of_lt hz4'.1 (World.ownsRow.lt hown5 W4.heap.size rfl).2
      have hF5 := HF4.out.later hb5 (Nat.lt_succ_self _)
      have HF5 := Lib.hid hF5
      have H5 := Lib.hid (And.intro hown5 hb5)
      clear hi0 hz0 hz1 hz2 hgr5 hown5 hb5 hF5
      go_upto_region 12 with (fail)
      clear hmk j0 j1 j2
      obtain ⟨j0, j1, j2⟩ := HF5.out.st
      simp only [Nat.zero_add] at j0 j1 j2
      have hown5 := H5.out.1
      have hsrc : SliceIn W5 (.slice ap np ca) np 3 (rowsOf (pmRow x.params) np) := by
        have hb0 := HB0.out.trans (HF5.out.below.mono HB0.out.size)
        have h := (Hp.out.1 i x Hx.out).imp (Q := fun b o k => ∀ y, x.params[k]? = some y → PmAt W5 b o y) hb0.size fun b o k hl _ hp y hy => (hp y hy).later hb0 hl
        rw [Hva.out.1] at h
        have := params_slice h
        rw [← Hl.out.1] at this
        exact this
      have hone : ∀ u ∈ rowsOf (pmRow x.params) np, u.oneCell' = true := rows_one fun j _ => pmRow_one _ _
      have hB5 : D + 1 ≤ W5.heap.size := Nat.le_of_lt hg5
      have hmx : 0 + np ≤ maxLen := by unfold maxLen; omega
      have hby : (0 + np) * 32 ≤ 140737488355328 := by omega
      go_upto_region 13 with (at_builtin; refine append_gen rfl _ _ 37 rfl Try.underlying37 Try.infoPm rfl (by decide) (D + 1) _ 0 [] rfl hown5 (.slice ap np ca) np (rowsOf (pmRow x.params) np) rfl hsrc hone hmx hby hB5 ?_; intro v6 w6 hown6 hgr6 hfr6 hbl6)
      have hb6 : Below (D + 1) W4 w6 := hbl6 _ _ H5.out.2 (Nat.le_refl _)
      simp only [Nat.zero_add, List.nil_append] at hown6
      have hB6 : D + 1 ≤ w6.heap.size := Nat.le_trans hz4'.1 hb6.size
      have Hb6 := Lib.hid hb6
      have hnp5 : np ≤ 5000000 := by omega
      clear hfr6 hbl6 hgr6 hown5 hsrc hone hmx hby hb6 j0 j1 j2 hg5 hB5
      go_upto_region 14 with (at_builtin; refine append_one rfl _ _ 37 rfl Try.underlying37 Try.infoPm rfl (by decide) (by decide) (D + 1) v6 np (rowsOf (pmRow x.params) np) rfl hown6 sparePm rfl (by intro u hu; unfold sparePm at hu; simp at hu; rcases hu with rfl | rfl | rfl <;> rfl) rfl hnp5 hB6 ?_; intro v7 w7 hown7 hgr7 hfr7)
      obtain ⟨g7, c7, rfl, hg7, hg7', hc7⟩ := row_one hown7 (Nat.succ_pos np)
      have hb7 : Below (D + 1) W4 w7 := below_app hgr7 Hb6.out hB6 fun k hk => (World.ownsRow.lt hown6 k hk).1
      have HF7 := Lib.hid (HF4.out.later hb7 (Nat.lt_succ_self _))
      have Hown7 := Lib.hid hown7
      have hs7 : D + 1 ≤ w7.heap.size := by have := app_size hgr7; omega
      have hnc7 : np ≤ c7 := by omega
      clear hown7 hgr7 hfr7 hown6 hb7 Hb6 hB6 H5 HF5 hnp5
      obtain ⟨j0, j1, j2⟩ := HF7.out.st
      simp only [Nat.zero_add] at j0 j1 j2
      have hf1 := HF7.out.fr 1
      go_upto_region 15 with (fail)
      obtain ⟨W9, hW9⟩ : ∃ w : World, w = w7.setCell ⟨D, 1, none⟩ (.slice (some ⟨g7, 0, none⟩) np c7) := ⟨_, rfl⟩
      rw [← hW9]
      have hO9 : Oth (· = D) w7 W9 := by rw [hW9]; exact (Oth.refl (· = D) w7).set (p := ⟨D, 1, none⟩) rfl _
      have HF9 : Hid (FMid wr W9 D x (.slice (some ⟨g7, 0, none⟩) np c7) (.slice ab nb cb)) := HF7.out.oth hO9 (fun j => by rw [hW9]; simp only [World.frozen?_setCell]) (by rw [hW9]; exact HF7.out.st.set1 _)
      have hz9 : W9.heap.size = w7.heap.size := by rw [hW9]; simp only [size_set]
      have Hown9 : Hid (W9.ownsRow (D + 1) 63 3 (.slice (some ⟨g7, 0, none⟩) (np + 1) c7) (np + 1) (rowsOf (pmRow x.params) np ++ sparePm)) := ownsRow_at Hown7.out (hO9.block g7 hg7' (by show ¬ g7 = D; omega))
      have hg9 : g7 < W9.heap.size := by omega
      have hs9 : D + 1 ≤ W9.heap.size := by omega
      have Hcd : Hid (RCopyS w0 x.body (.slice ab nb cb)) := by
        have := copyS_any _ _ _ (Hp.out.2 i x Hx.out)
        rw [Hva.out.2, ← Hl.out.2] at this; exact this
      have HB9 : Hid (Below w0.heap.size w0 W9) := HB0.out.trans (HF9.out.below.mono HB0.out.size)
      clear hO9 hW9 hz9 hs7 Hown7 HF7 j0 j1 j2 hf1 hg7'
      obtain ⟨j0, j1, j2⟩ := HF9.out.st
      simp only [Nat.zero_add] at j0 j1 j2
      go_wp2_with fail
      clear j0 j1 j2
      refine (Hcd.out W9 HB9.out HT.out).mono ?_
      rintro E w10 ⟨v10, rfl, hb10, ho10⟩
      obtain ⟨a10, c10, hv10, -⟩ := ho10.reads.form
      subst hv10
      have HF10 := Lib.hid (HF9.out.later hb10 (by omega))
      have H10 := Lib.hid (And.intro hb10 ho10)
      have q10 := hb10.size
      clear hb10 ho10
      obtain ⟨j0, j1, j2⟩ := HF10.out.st
      simp only [Nat.zero_add] at j0 j1 j2
      have hf2 := HF10.out.fr 2
      go_upto_region 16 with (fail)
      obtain ⟨W11, hW11⟩ : ∃ w : World, w = w10.setCell ⟨D, 2, none⟩ (.slice a10 x.body.length c10) := ⟨_, rfl⟩
      rw [← hW11]
      have hO11 : Oth (· = D) w10 W11 := by rw [hW11]; exact (Oth.refl (· = D) w10).set (p := ⟨D, 2, none⟩) rfl _
      have HF11 : Hid (FMid wr W11 D x (.slice (some ⟨g7, 0, none⟩) np c7) (.slice a10 x.body.length c10)) := HF10.out.oth hO11 (fun j => by rw [hW11]; simp only [World.frozen?_setCell]) (by rw [hW11]; exact HF10.out.st.set2 _)
      have hz11 : W11.heap.size = w10.heap.size := by rw [hW11]; simp only [size_set]
      have HO11 : Hid (OwnFn W11 x (.slice (some ⟨g7, 0, none⟩) np c7) (.slice a10 x.body.length c10) (D + 1) W9.heap.size W11.heap.size g7 c7) := by
        have hq : ∀ k, k < W9.heap.size → D + 1 ≤ k → W11.heap[k]? = W9.heap[k]? := fun k h1 h2 => (hO11.block k (by omega) (by show ¬ k = D; omega)).trans (H10.out.1.block k h1)
        refine ⟨by omega, by rw [Hl.out.1], ?_, ?_⟩
        · have := ownsRow_at Hown9.out (hq g7 hg9 hg7)
          rw [Hl.out.1] at this
          exact this
        · rw [hz11]
          exact H10.out.2.apart (by omega) fun k h1 h2 => hO11.block k h2 (by show ¬ k = D; omega)
      have hown11 : W11.ownsRow M 40 3 (.slice (some ⟨g, 0, none⟩) i cp) i (rowsOf (fnRow p.funcs xp xb) i) := by
        have := Hm.out.1.own
        simp only [Nat.add_zero, List.append_nil] at this
        exact ownsRow_at this (HF11.out.below.block g hgr.2)
      have hMo : M ≤ W11.heap.size := by have := HF11.out.below.size; omega
      have hi5 : i ≤ 5000000 := by omega
      clear hW11 hO11 hz11 j0 j1 j2 hf2 H10 HF10 Hown9 HF9 HB9 Hcd q10
      obtain ⟨j0, j1, j2⟩ := HF11.out.st
      simp only [Nat.zero_add] at j0 j1 j2
      go_upto_region 9 with (at_builtin; refine append_one rfl _ _ 24 rfl Try.underlying24 Try.infoFn rfl (by decide) (by decide) M (.slice (some ⟨g, 0, none⟩) i cp) i (rowsOf (fnRow p.funcs xp xb) i) rfl hown11 [.string x.name, .slice (some ⟨g7, 0, none⟩) np c7, .slice a10 x.body.length c10] rfl (by intro u hu; simp at hu; rcases hu with rfl | rfl | rfl <;> rfl) rfl hi5 hMo ?_; intro v15 w15 hown15 hgr15 hfr15)
      obtain ⟨g15, c15, rfl, hg15⟩ := row_one hown15 (Nat.succ_pos i)
      have Hres : Hid (∃ xp xb q m0 m1 gp cp, FnMade w15 M p.funcs (i + 1) g15 c15 0 [] xp xb q m0 m1 gp cp ∧ Below M W7 w15) := by
        have s15 := app_size hgr15
        have hblk := app_block hgr15
        have hgg := app_fresh hfr15
        have hlt := HF11.out.lt
        refine ⟨_, _, _, _, _, _, _, Hm.out.1.next Hx.out (fun k h1 h2 h3 => (hblk k (by omega) h3).trans (HF11.out.below.block k h2)) (HO11.out.apart (by omega) fun k h1 h2 => hblk k h2 (by omega)) (by omega) (by omega) hown15 ⟨hg15.1, hg15.2.1⟩ hgg, ?_⟩
        exact below_app hgr15 (Hm.out.2.trans (HF11.out.below.mono (by omega))) hMo fun k e => by
            simp [Value.ownBlock] at e; omega
      clear hown15 hgr15 hfr15 hown11 hg15 j0 j1 j2
      go_wp2_with fail
      go_roundg (n - (i + 1))
      case measure => have := Hg.out; omega
      case rel =>
        obtain ⟨xp, xb, q, m0, m1, gp, cp, h1, h2⟩ := Hres.out
        exact ⟨i + 1, g15, c15, xp, xb, q, m0, m1, gp, cp, rfl, rfl, by go_num, hin, h1, h2⟩
    · obtain rfl : n = i := by omega
      have hown := Hm.out.1.own
      simp only [Nat.add_zero, List.append_nil] at hown
      have hi5 : n ≤ 5000000 := by omega
      have hMo : M ≤ wr.heap.size := by omega
      go_upto_region 18 with (at_builtin; refine append_one rfl _ _ 24 rfl Try.underlying24 Try.infoFn rfl (by decide) (by decide) M (.slice (some ⟨g, 0, none⟩) n cp) n (rowsOf (fnRow p.funcs xp xb) n) rfl hown spareFn rfl (by intro u hu; unfold spareFn at hu; simp at hu; rcases hu with rfl | rfl | rfl <;> rfl) rfl hi5 hMo ?_; intro v15 w15 hown15 hgr15 hfr15)
      obtain ⟨g15, c15, rfl, hg15⟩ := row_one hown15 (Nat.succ_pos n)
      have hb15 : Below M W7 w15 := below_app hgr15 Hm.out.2 hMo fun k e => by
            simp [Value.ownBlock] at e; omega
      have HF15 : Hid (FnMade w15 M p.funcs n g15 c15 1 spareFn xp xb q m0 m1 gp cpp) := Hm.out.1.all (fun k h1 h2 h3 => app_block hgr15 k h2 h3) (Nat.le_of_lt (app_size hgr15)) hown15 ⟨hg15.1, hg15.2.1⟩ (app_fresh hfr15)
      have H15 := Lib.hid (And.intro hb15 (H7.out.2.2.later hb15 (by omega)))
      have hnc : n < c15 := hg15.2.2
      have hnc' : n ≤ c15 := Nat.le_of_lt hnc
      have hs15 : M ≤ w15.heap.size := by have := app_size hgr15; omega
      clear hown15 hgr15 hfr15 hown hb15 c1 hi5 hg15
      obtain ⟨c0, c1, d0, d1, e0, e1, fd, fe⟩ := H15.out.2
      have fd1 := fd 1
      clear c0 d0 e0 e1 fe fd
      go_upto_region 19 with (fail)
      obtain ⟨W16, hW16⟩ : ∃ w : World, w = w15.setCell ⟨B + 2, 1, none⟩ (.slice (some ⟨g15, 0, none⟩) n c15) := ⟨_, rfl⟩
      rw [← hW16]
      have hO16 : Oth (· = B + 2) w15 W16 := by rw [hW16]; exact (Oth.refl (· = B + 2) w15).set (p := ⟨B + 2, 1, none⟩) rfl _
      have hz16 : W16.heap.size = w15.heap.size := by rw [hW16]; simp only [size_set]
      have hbx16 : Boxes W16 B (.slice aw m cw) (.slice af n cf) (.slice (some ⟨g6, 0, none⟩) m c6) (.slice (some ⟨g15, 0, none⟩) n c15) := by rw [hW16]; exact H15.out.2.set1 _
      have H16 := Lib.hid hbx16
      have hbW : Below W.heap.size W W16 := (H7.out.2.1.trans (H15.out.1.mono (by omega))).trans (hO16.below (by omega) fun k e => by omega)
      have HO : Hid (OwnPg W16 (B + 3) M p g6 c6 g15 c15 xp xb q m0 m1 gp cpp) := by
        refine ⟨by omega, ?_, ?_⟩
        · rw [← Hlen.out.1]
          exact ownsRow_at H7.out.1 ((hO16.block g6 (by omega) (by show ¬ g6 = B + 2; omega)).trans (H15.out.1.block g6 (by omega)))
        · rw [← Hlen.out.2]
          have hg := HF15.out.hg
          exact HF15.out.all (fun k h1 h2 _ => hO16.block k h2 (by show ¬ k = B + 2; omega)) (by omega) (ownsRow_at HF15.out.own (hO16.block g15 (by omega) (by show ¬ g15 = B + 2; omega))) ⟨hg.1, by omega⟩ (.inl rfl)
      have HbW := Lib.hid hbW
      clear hO16 hW16 hz16 hbx16 hbW d1 c1 fd1
      obtain ⟨c0, c1, d0, d1, e0, e1, fd, fe⟩ := H16.out
      have fe0 := fe 0
      have fe1 := fe 1
      clear fe fd
      go_wp2_with fail
      obtain ⟨W17, hW17⟩ : ∃ w : World, w = (W16.setCell ⟨B + 1, 0, none⟩ (.slice (some ⟨g6, 0, none⟩) m c6)).setCell ⟨B + 1, 1, none⟩ (.slice (some ⟨g15, 0, none⟩) n c15) := ⟨_, rfl⟩
      have hO17 : Oth (· = B + 1) W16 W17 := by rw [hW17]; exact ((Oth.refl (· = B + 1) W16).set (p := ⟨B + 1, 0, none⟩) rfl _).set (p := ⟨B + 1, 1, none⟩) rfl _
      have r0 : W17.cell? ⟨B + 1, 0, none⟩ = some (.slice (some ⟨g6, 0, none⟩) m c6) := by rw [hW17]; simp [cell_set, e0]
      have r1 : W17.cell? ⟨B + 1, 1, none⟩ = some (.slice (some ⟨g15, 0, none⟩) n c15) := by rw [hW17]; simp [cell_set, e1]
      have hz17 : W17.heap.size = W16.heap.size := by rw [hW17]; simp only [size_set]
      have hs16 := HO.out.hw
      rw [← hW17]
      refine bodyPost_ret (v := .agg #[.slice (some ⟨g6, 0, none⟩) m c6, .slice (some ⟨g15, 0, none⟩) n c15]) (by simp [results, Try.results20, go_sem, r0, r1]) rfl ⟨_, rfl, HbW.out.trans (hO17.below HbW.out.size fun k e => by omega), ?_⟩
      have hg := HO.out.fns.hg
      refine ⟨M, g6, c6, g15, c15, xp, xb, q, m0, m1, gp, cpp, by rw [← Hlen.out.1, ← Hlen.out.2]; rfl, by rw [← Hlen.out.1]; omega, by rw [← Hlen.out.2]; omega, ⟨by omega, ownsRow_mono (ownsRow_at HO.out.widen (hO17.block g6 (by omega) (by show ¬ g6 = B + 1; omega))) (by omega), HO.out.fns.all (fun k h1 h2 _ => hO17.block k h2 (by show ¬ k = B + 1; omega)) (by omega) (ownsRow_at HO.out.fns.own (hO17.block g15 hg.2 (by show ¬ g15 = B + 1; omega))) ⟨hg.1, by omega⟩ (.inl rfl)⟩⟩
end Go.Proofs.Ytgcplcffejbniaa

namespace Go.Proofs.Ytgcplcffejbniaa
open Go.RowKit

def Fn.weight (f : Fn) : Nat := 1 + f.params.length + St.totals f.body
def Fn.weights : List Fn → Nat
  | [] => 0
  | f :: l => f.weight + Fn.weights l
theorem Fn.weights_snoc (l : List Fn) (x : Fn) : Fn.weights (l ++ [x]) = Fn.weights l + x.weight := by
  induction l with
  | nil => simp [Fn.weights]
  | cons y l ih => simp only [List.cons_append, Fn.weights, ih]; omega
theorem Fn.weights_take {l : List Fn} {i : Nat} {x : Fn} (h : l[i]? = some x) : Fn.weights (l.take (i + 1)) = Fn.weights (l.take i) + x.weight := by rw [take_next h, Fn.weights_snoc]
theorem Fn.weights_len (l : List Fn) : l.length ≤ Fn.weights l := by
  induction l with
  | nil => simp
  | cons y l ih => simp only [List.length_cons, Fn.weights, Fn.weight]; omega
theorem Fn.weights_mem {l : List Fn} {f : Fn} (h : f ∈ l) : f.weight ≤ Fn.weights l := by
  induction l with
  | nil => cases h
  | cons y l ih =>
    simp only [Fn.weights]
    rcases List.mem_cons.1 h with rfl | h
    · omega
    · have := ih h; omega
/-- What Big answers: no only where there are few parts. -/
def BigSays (p : Pg) (w : World) (e : Ending) (w' : World) : Prop := ∃ b, e = .returned (.bool b) ∧ (b = false → p.small) ∧ Below w.heap.size w w'
theorem bigSays_yes {p : Pg} {w w' : World} (h : Below w.heap.size w w') : BigSays p w (.returned (.bool true)) w' := ⟨true, rfl, by simp, h⟩
set_option maxRecDepth 100000 in
set_option maxHeartbeats 4000000 in
theorem big_any (p : Pg) (vw vf : Value) (vp vb : Nat → Value) (w0 : World) (h : PgIn w0 p vw vf vp vb) (hz : ∀ f ∈ p.funcs, f.params.length ≤ 140737488355328) (W : World) (hB : Below w0.heap.size w0 W) :
    Calls Try.prog 21 #[pgV vw vf] W (BigSays p W) := by
  obtain ⟨hw, hr, hpp, hbb⟩ := h
  obtain ⟨aw, cw, rfl, hw1, hw2⟩ : ∃ aw cw, vw = .slice aw p.widen.length cw ∧ p.widen.length ≤ cw ∧ cw ≤ maxLen := by
    obtain ⟨_, a, c, e, h1, h2, _⟩ := hw
    exact ⟨a, c, e, h1, h2⟩
  obtain ⟨af, cf, rfl, hf1, hf2⟩ := hr.form
  obtain ⟨m, hm⟩ : ∃ m, m = p.widen.length := ⟨_, rfl⟩
  obtain ⟨n, hn⟩ : ∃ n, n = p.funcs.length := ⟨_, rfl⟩
  have Hlen := Lib.hid (And.intro hm hn)
  have Hr : Hid (RowOf w0 (.slice af n cf) n 3 (fun b o i => ∀ x, p.funcs[i]? = some x → FnCells w0 b o x (vp i) (vb i))) := by rw [hn]; exact hr
  have Hp := Lib.hid (And.intro hpp hbb)
  have Hz := Lib.hid hz
  rw [← hm, ← hn]
  rw [← hm] at hw1
  rw [← hn] at hf1
  have hmn : m ≤ 9223372036854775807 ∧ n ≤ 9223372036854775807 := by have : maxLen ≤ 9223372036854775807 := by decide
                                                                     omega
  obtain ⟨hm62, hn62⟩ := hmn
  obtain ⟨B, hBe⟩ : ∃ B, B = W.heap.size := ⟨_, rfl⟩
  obtain ⟨Wa, hWa⟩ : ∃ w : World, w = W.alloc (.cells #[.slice aw m cw, .slice af n cf] 26) := ⟨_, rfl⟩
  have hba : Below W.heap.size W Wa := by rw [hWa]; exact (Below.refl _ _).alloc (Nat.le_refl _) _
  have hbx : Wa.cell? ⟨B, 0, none⟩ = some (.slice aw m cw) ∧ Wa.cell? ⟨B, 1, none⟩ = some (.slice af n cf) := by
    rw [hWa, hBe]
    exact ⟨World.cell?_alloc_at _ _ _ _ rfl, World.cell?_alloc_at _ _ _ _ rfl⟩
  have Hba := Lib.hid (And.intro hba hbx)
  have HWa := Lib.hid (And.intro hWa hBe)
  have hBW : B < Wa.heap.size ∧ W.heap.size ≤ Wa.heap.size := by rw [hWa, World.size_alloc]; omega
  have HBa : Hid (Below w0.heap.size w0 Wa) := hB.trans (hba.mono hB.size)
  obtain ⟨c0, c1⟩ := hbx
  unfold pgV
  clear hw hr hpp hbb hB hm hn hWa hBe hba hz
  go_enter Try.func21, Try.ntmps21
  go_upto_region 1 with (fail)
  rw [← HWa.out.1, ← HWa.out.2]
  go_wp2_with fail
  clear c0 c1
  go_loopg [3, 4] n (fun gk lv iv wx => ∃ (i : Nat) (left : Int), gk = n - i ∧ iv = .int .i64 (i : Int) ∧ lv = .int .i64 left ∧ i ≤ n ∧ (0 ≤ left → left + Fn.weights (p.funcs.take i) = 1048576) ∧ (-9223372036854775000 ≤ left ∧ left ≤ 1048576) ∧ Below Wa.heap.size Wa wx)
  case atStart => exact ⟨0, 1048576, rfl, rfl, rfl, Nat.zero_le _, by simp [Fn.weights], by omega, Below.refl _ _⟩
  case round =>
    obtain ⟨i, left, hgk, rfl, rfl, hi, hl, ⟨hl1, hl2⟩, hbw⟩ := hrel
    have Hg := Lib.hid hgk
    have Hl := Lib.hid hl
    have HBr : Hid (Below w0.heap.size w0 wr) := HBa.out.trans (hbw.mono HBa.out.size)
    have Hbw := Lib.hid hbw
    have HW : Hid (Below W.heap.size W wr) := Hba.out.1.trans (hbw.mono hBW.2)
    have kc := fun b j (h : b < Wa.heap.size) => hbw.cell (p := ⟨b, j, none⟩) h
    obtain ⟨c0, c1⟩ := Hba.out.2
    rw [← kc _ _ hBW.1] at c0 c1
    have hsz := hbw.size
    clear hgk hbw kc hl
    by_cases hl0 : 0 ≤ left
    · by_cases hin : i < n
      · obtain ⟨x, hx⟩ : ∃ x, p.funcs[i]? = some x := ⟨_, List.getElem?_eq_getElem (by rw [← Hlen.out.2]; exact hin)⟩
        obtain ⟨b, off, rfl, hb, hP⟩ := Hr.out.at (i := i) hin
        have hst := (hP x hx).later HBr.out hb
        obtain ⟨ap, ca, hvp, hca1, hca2⟩ := (Hp.out.1 i x hx).form
        obtain ⟨ab, cb, hvb, -⟩ := (Hp.out.2 i x hx).form
        have Rb := rstmts_any _ _ _ (Hp.out.2 i x hx)
        obtain ⟨np, hnp⟩ : ∃ n, n = x.params.length := ⟨_, rfl⟩
        obtain ⟨nb, hnb⟩ : ∃ n, n = x.body.length := ⟨_, rfl⟩
        rw [hvp, hvb, ← hnp, ← hnb] at hst
        rw [hvb, ← hnb] at Rb
        rw [← hnp] at hca1
        have hnp62 : np ≤ 140737488355328 := by rw [hnp]; exact Hz.out x (List.mem_of_getElem? hx)
        have HR := Lib.hid Rb
        have Hx := Lib.hid (And.intro hx hnp)
        obtain ⟨i0, i1, i2⟩ := hst
        clear hP hx Rb hvp hvb hnp hnb i0
        obtain ⟨l2, hl2'⟩ : ∃ l2 : Int, l2 = left - (1 + (np : Int)) := ⟨_, rfl⟩
        have hl2r : -9223372036854775000 ≤ l2 ∧ l2 ≤ 1048576 := by omega
        have Hl2 := Lib.hid hl2'
        clear hl2'
        go_upto_region 6 with (fail)
        rw [← Hl2.out]
        by_cases h20 : 0 ≤ l2
        · go_upto_region 7 with (fail)
          clear i1
          go_wp2_with fail
          clear i2
          refine (HR.out wr l2 HBr.out (by omega) (by omega)).mono ?_
          rintro E w5 ⟨r, rfl, hr, hb5⟩
          have hrr : (r : Int) ≤ l2 + 3 := by unfold CutN Acc at hr; omega
          have Hf : Hid ((0 ≤ l2 - r → l2 - r + Fn.weights (p.funcs.take (i + 1)) = 1048576) ∧ Below Wa.heap.size Wa w5) := by
            refine ⟨fun h => ?_, Hbw.out.trans (hb5.mono hsz)⟩
            have h1 := Hl.out hl0
            have h2 := Fn.weights_take Hx.out.1
            have h3 := Hl2.out
            have h4 := Hx.out.2
            unfold Fn.weight at h2
            unfold CutN Acc at hr
            omega
          have hl3 : -9223372036854775000 ≤ l2 - r ∧ l2 - r ≤ 1048576 := by omega
          clear hr hb5
          go_wp2_with fail
          go_roundg (n - (i + 1))
          case measure => have := Hg.out; omega
          case rel => exact ⟨i + 1, l2 - r, rfl, by go_num, rfl, hin, Hf.out.1, hl3, Hf.out.2⟩
        · go_wp2_with fail
          go_roundg (n - (i + 1))
          case measure => have := Hg.out; omega
          case rel => exact ⟨i + 1, l2, rfl, by go_num, rfl, hin, fun h => by omega, hl2r, Hbw.out⟩
      · obtain rfl : n = i := by omega
        have Hs : Hid (m ≤ 1048576 → p.small) := fun h => by
          have h1 := Hl.out hl0
          rw [List.take_of_length_le (by rw [← Hlen.out.2]; exact Nat.le_refl _)] at h1
          refine ⟨by rw [← Hlen.out.1]; omega, by have := Fn.weights_len p.funcs; omega, fun f hf => ?_⟩
          have := Fn.weights_mem hf
          unfold Fn.weight at this
          constructor <;> omega
        by_cases hm1 : m ≤ 1048576
        · have hd1 : decide (left < 0) = false := by simpa using hl0
          have hd2 : decide ((1048576 : Int) < (m : Int)) = false := by simp; omega
          go_wp2_with fail
          go_ret
          exact ⟨false, rfl, fun _ => Hs.out hm1, HW.out⟩
        · have hd2 : decide ((1048576 : Int) < (m : Int)) = true := by simp; omega
          have hd1 : decide (left < 0) = false := by simpa using hl0
          go_wp2_with fail
          go_ret
          exact bigSays_yes HW.out
    · have hd1 : decide (left < 0) = true := by simp; omega
      have hd0 : decide (0 ≤ left) = false := by simpa using hl0
      by_cases hin : i < n
      · have hd3 : decide ((i : Int) < (n : Int)) = true := by simp; omega
        go_wp2_with fail
        go_ret
        exact bigSays_yes HW.out
      · have hd3 : decide ((i : Int) < (n : Int)) = false := by simp; omega
        go_wp2_with fail
        go_ret
        exact bigSays_yes HW.out
end Go.Proofs.Ytgcplcffejbniaa
