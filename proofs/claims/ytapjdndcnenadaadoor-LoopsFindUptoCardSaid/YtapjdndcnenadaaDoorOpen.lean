/- An argument api.Func, opened: its code and its parameters as plain lists. -/
import Derived.Test.YtapjdndcnenadaaDoorSameL
import Derived.Test.YtapjdndcnenadaaDoorWithout
import Derived.ProofKit
import Derived.SizedLaws
import Derived.Lib.SmallJoins
import Derived.Deep.Slices
import Derived.Deep.Fields
namespace Go.Proofs.YtapjdndcnenadaaDoor
open Go.Joins Go.ChangeShapes Go.WideShapes Go.ChangeAt Go.RowKit Go.Deep

section
variable {H : Type} {enc : TypeId × Value → H} {P : Program} {w : World} {base : Nat} {spare : Nat → Bool} {held : Bool}
theorem open_agg5 {r : Reach} {b0 : Nat} {t : TypeId} {f0 f1 f2 f3 f4 : Field} {v : Value} {d : DataW H} {p : List MemPlace} (hs : P.underlying t = some (.struct #[f0, f1, f2, f3, f4])) (hone : oneCellFields P #[f0, f1, f2, f3, f4] = true) (hC : P.cellsOf t = 5)
    (hv : Value.okWide P w r b0 t v) (h : DataW.Trod enc P w base spare held t v d p) :
    ∃ (v0 v1 v2 v3 v4 : Value) (y0 y1 y2 y3 y4 : DataW H × List MemPlace) (n : Nat), v = .agg #[v0, v1, v2, v3, v4] ∧ d = .agg [y0.1, y1.1, y2.1, y3.1, y4.1] ∧ p = y0.2 ++ (y1.2 ++ (y2.2 ++ (y3.2 ++ y4.2))) ∧
      DataW.trod enc P w base spare held n f0.type [v0] = some y0 ∧ DataW.trod enc P w base spare held n f1.type [v1] = some y1 ∧ DataW.trod enc P w base spare held n f2.type [v2] = some y2 ∧ DataW.trod enc P w base spare held n f3.type [v3] = some y3 ∧ DataW.trod enc P w base spare held n f4.type [v4] = some y4 := by
  obtain ⟨cs, rfl, hsz⟩ := okWide_struct hs hv
  obtain ⟨l⟩ := cs
  match l, hsz.trans hC with
  | [c0, c1, c2, c3, c4], _ =>
    obtain ⟨fuel, hf⟩ := h
    obtain ⟨xs, n, _, hx, _, hlen, hg⟩ := DataW.trod_struct hs hf
    obtain ⟨o0, k0⟩ := hone_of hone 0 f0 rfl
    obtain ⟨o1, k1⟩ := hone_of hone 1 f1 rfl
    obtain ⟨o2, k2⟩ := hone_of hone 2 f2 rfl
    obtain ⟨o3, k3⟩ := hone_of hone 3 f3 rfl
    obtain ⟨o4, k4⟩ := hone_of hone 4 f4 rfl
    match xs, hlen with
    | [y0, y1, y2, y3, y4], _ =>
      simp only [Prod.mk.injEq] at hx
      exact ⟨c0, c1, c2, c3, c4, y0, y1, y2, y3, y4, n, rfl, by simpa using hx.1, by simpa using hx.2, by simpa [Value.cells, o0, k0] using hg 0 f0 rfl, by simpa [Value.cells, o1, k1] using hg 1 f1 rfl, by simpa [Value.cells, o2, k2] using hg 2 f2 rfl, by simpa [Value.cells, o3, k3] using hg 3 f3 rfl, by simpa [Value.cells, o4, k4] using hg 4 f4 rfl⟩

theorem open_slice_fields {t e : TypeId} {fs : Array Field} {fuel : Nat} {cs : List Value} {x : DataW H × List MemPlace} (ht : P.underlying t = some (.slice e)) (he : P.underlying e = some (.struct fs))
    (hone : oneCellFields P fs = true) (hC : P.cellsOf e = fs.size) (h : DataW.trod enc P w base spare held fuel t cs = some x) :
    (cs = [.slice none 0 0] ∧ x = (.nil, [])) ∨
    ∃ (a : Addr) (len cap m : Nat) (D : Nat → DataW H) (Pl : Nat → List MemPlace), cs = [.slice (some a) len cap] ∧ base ≤ a.block ∧ len ≤ cap ∧ cap ≤ maxLen ∧ m = (if spare a.block then cap else len) ∧
      x = (.slice ((List.range len).map D) ((List.range (m - len)).map fun j => D (len + j)), MemPlace.row a (m * fs.size) ++ (List.range m).flatMap Pl) ∧
      ∀ i, i < m → ∃ (ys : List (DataW H × List MemPlace)) (n : Nat), D i = .agg (ys.map (·.1)) ∧ Pl i = ys.flatMap (·.2) ∧ ys.length = fs.size ∧
        ∀ (j : Nat) (f : Field), fs[j]? = some f → ∃ (v : Value) (y : DataW H × List MemPlace), w.cell? (a.add (i * fs.size + j)) = some v ∧ ys[j]? = some y ∧ DataW.trod enc P w base spare held n f.type [v] = some y := by
  rcases open_slice ht h with h0 | ⟨a, len, cap, m, n, D, Pl, hcs, hb, hl, hm, hmm, hx, hi⟩
  · exact .inl h0
  · refine .inr ⟨a, len, cap, m, D, Pl, hcs, hb, hl, hm, hmm, by rw [hC] at hx; exact hx, fun i him => ?_⟩
    obtain ⟨cs', hc, ht'⟩ := hi i him
    rw [hC] at hc
    obtain ⟨ys, n', hn', hy, hlen, hyl, hf⟩ := DataW.trod_struct he ht'
    obtain ⟨_, hcl, hat⟩ := World.cells?_some hc
    simp only [Prod.mk.injEq] at hy
    refine ⟨ys, n', hy.1, hy.2, hyl, fun j f hj => ?_⟩
    obtain ⟨ho, hk⟩ := hone_of hone j f hj
    have hjl : j < fs.size := (Array.getElem?_eq_some_iff.1 hj).1
    have hcell := hat j hjl
    have hv : cs'[j]? = some (cs'[j]'(by omega)) := List.getElem?_eq_getElem (by omega)
    have h1 := hf j f hj
    rw [ho, hk] at h1
    have hone' : (cs'.drop j).take 1 = [cs'[j]'(by omega)] := by
      rw [List.drop_eq_getElem_cons (by omega)]
      rfl
    rw [hone'] at h1
    have hys : ys[j]? = some (ys[j]'(by omega)) := List.getElem?_eq_getElem (by omega)
    refine ⟨_, _, ?_, hys, h1.trans hys⟩
    rw [← Go.Deep.add_add, hcell, hv]
end

theorem flat_at {α β : Type} (f : α → List β) (k : Nat) (hk : ∀ x, (f x).length = k) : ∀ (l : List α) (j : Nat) (u : β), (l.flatMap f)[j]? = some u → ∃ i r x, j = i * k + r ∧ r < k ∧ i < l.length ∧ l[i]? = some x ∧ (f x)[r]? = some u
  | [], j, u, h => by simp at h
  | x :: l, j, u, h => by
    rw [List.flatMap_cons] at h
    by_cases hj : j < k
    · rw [List.getElem?_append_left (by rw [hk]; exact hj)] at h
      exact ⟨0, j, x, by omega, hj, by simp, rfl, h⟩
    · rw [List.getElem?_append_right (by rw [hk]; omega), hk] at h
      obtain ⟨i, r, y, h1, h2, h3, h4, h5⟩ := flat_at f k hk l (j - k) u h
      exact ⟨i + 1, r, y, by rw [Nat.add_mul]; omega, h2, by simpa using h3, by simpa using h4, h5⟩

/-- A slice value whose cells are told element by element reads. -/
theorem sliceIn_rows {α : Type} (f : α → List Value) (k : Nat) (hk : ∀ x, (f x).length = k) (hk0 : 0 < k) (w : World) (a : Addr) (len cap : Nat) (D : Nat → α) (hl : len ≤ cap) (hm : cap ≤ maxLen)
    (h : ∀ i, i < len → ∀ r u, (f (D i))[r]? = some u → w.cell? (a.add (i * k + r)) = some u) : SliceIn w (.slice (some a) len cap) len k (((List.range len).map D).flatMap f) := by
  refine ⟨?_, some a, cap, rfl, hl, hm, by simp, fun h0 => ?_⟩
  · rw [List.length_flatMap]
    have : (List.map (fun x => (f x).length) ((List.range len).map D)) = List.replicate len k := by
      rw [List.map_map]; apply List.ext_getElem (by simp); intro i _ _; simp [hk]
    rw [this]; simp
  · have h1 : ∃ u, (f (D 0))[0]? = some u := ⟨(f (D 0))[0]'(by rw [hk]; exact hk0), List.getElem?_eq_getElem (by rw [hk]; exact hk0)⟩
    obtain ⟨u, hu⟩ := h1
    have hc := h 0 h0 0 u hu
    have hsp := World.cell?_spot hc
    have hbl := World.block_lt_of_cell? w _ hc
    obtain ⟨b, off, sp⟩ := a
    simp [Addr.add] at hsp hbl
    subst hsp
    refine ⟨b, off, rfl, hbl, fun j u hu => ?_⟩
    obtain ⟨i, r, x, rfl, hr, hi, hx, hu'⟩ := flat_at f k hk _ j u hu
    rw [List.length_map, List.length_range] at hi
    rw [List.getElem?_map, List.getElem?_range hi] at hx
    simp only [Option.map_some, Option.some.injEq] at hx
    subst hx
    have := h i hi r u hu'
    unfold Addr.add at this
    split at this
    · rename_i h0; rw [h0]; exact this
    · exact this

/-- A bound on an input. -/
structure Span where
  lo : Int
  hi : Int
  deriving DecidableEq, Inhabited
def Span.cells (x : Span) : List Value := [.int .i64 x.lo, .int .i64 x.hi]
def SpansIn (w : World) (v : Value) (l : List Span) : Prop := SliceIn w v l.length 2 (l.flatMap Span.cells)

theorem sliceIn_nil (w : World) (k : Nat) : SliceIn w (.slice none 0 0) 0 k [] := ⟨by simp, none, 0, rfl, Nat.le_refl _, by unfold maxLen; omega, by simp, by simp⟩

section
variable {H : Type} {enc : TypeId × Value → H} {w : World} {base : Nat}

theorem bytesIns : Tryd.prog.bytesOf 52 = 40 := by kernel_rfl
theorem bytesSpan : Tryd.prog.bytesOf 86 = 16 := by kernel_rfl

theorem open_code {n : Nat} {v : Value} {y : DataW H × List MemPlace} (h : DataW.trod enc Tryd.prog w base (fun _ => true) true n 23 [v] = some y) (hw : ∀ m ∈ y.1.weights Tryd.prog 23, m ≤ reachBytes) :
    ∃ code : List Ins, CodeIn w v code ∧ code.length * 40 ≤ reachBytes := by
  rcases open_slice_fields Tryd.underlying23 Tryd.underlying52 (by kernel_rfl) (by kernel_rfl) h with ⟨hc, _⟩ | ⟨a, len, cap, m, D, Pl, hc, hb, hl, hm, hmm, hx, hall⟩
  · simp only [List.cons.injEq, and_true] at hc
    subst hc
    exact ⟨[], sliceIn_nil w 5, by unfold reachBytes; simp⟩
  · simp only [List.cons.injEq, and_true] at hc
    simp only [if_true] at hmm
    subst hc; subst hmm
    have hone : ∀ i, ∃ x : Ins, i < m → ∀ r u, x.cells[r]? = some u → w.cell? (a.add (i * 5 + r)) = some u := fun i => by
      by_cases hi : i < m
      · obtain ⟨ys, n', _, _, _, hf⟩ := hall i hi
        obtain ⟨v0, z0, c0, _, t0⟩ := hf 0 _ rfl
        obtain ⟨v1, z1, c1, _, t1⟩ := hf 1 _ rfl
        obtain ⟨v2, z2, c2, _, t2⟩ := hf 2 _ rfl
        obtain ⟨v3, z3, c3, _, t3⟩ := hf 3 _ rfl
        obtain ⟨v4, z4, c4, _, t4⟩ := hf 4 _ rfl
        obtain ⟨n0, e0, _⟩ := DataW.trod_int Tryd.underlying3 t0
        obtain ⟨n1, e1, _⟩ := DataW.trod_int Tryd.underlying3 t1
        obtain ⟨n2, e2, _⟩ := DataW.trod_int Tryd.underlying3 t2
        obtain ⟨n3, e3, _⟩ := DataW.trod_int Tryd.underlying3 t3
        obtain ⟨n4, e4, _⟩ := DataW.trod_int Tryd.underlying2 t4
        simp only [List.cons.injEq, and_true] at e0 e1 e2 e3 e4
        subst e0; subst e1; subst e2; subst e3; subst e4
        refine ⟨⟨n0, n1, n2, n3, n4⟩, fun _ r u hu => ?_⟩
        match r with
        | 0 => simp [Ins.cells] at hu; subst hu; exact c0
        | 1 => simp [Ins.cells] at hu; subst hu; exact c1
        | 2 => simp [Ins.cells] at hu; subst hu; exact c2
        | 3 => simp [Ins.cells] at hu; subst hu; exact c3
        | 4 => simp [Ins.cells] at hu; subst hu; exact c4
        | r + 5 => simp [Ins.cells] at hu
      · exact ⟨default, fun h => absurd h hi⟩
    obtain ⟨E, hE⟩ := Classical.axiomOfChoice hone
    refine ⟨(List.range len).map E, ?_, ?_⟩
    · have := sliceIn_rows Ins.cells 5 (fun _ => rfl) (by omega) w a len m E hl hm (fun i hi => hE i (by omega))
      unfold CodeIn
      simpa using this
    · have h2 := hw (m * 40) (by
        rw [hx]
        simp only [DataW.weights, Tryd.underlying23, bytesIns]
        simp
        left; omega)
      simp; omega

theorem open_spans {n : Nat} {v : Value} {y : DataW H × List MemPlace} (h : DataW.trod enc Tryd.prog w base (fun _ => true) true n 22 [v] = some y) (hw : ∀ m ∈ y.1.weights Tryd.prog 22, m ≤ reachBytes) :
    ∃ l : List Span, SpansIn w v l ∧ l.length * 16 ≤ reachBytes := by
  rcases open_slice_fields Tryd.underlying22 Tryd.underlying86 (by kernel_rfl) (by kernel_rfl) h with ⟨hc, _⟩ | ⟨a, len, cap, m, D, Pl, hc, hb, hl, hm, hmm, hx, hall⟩
  · simp only [List.cons.injEq, and_true] at hc
    subst hc
    exact ⟨[], sliceIn_nil w 2, by unfold reachBytes; simp⟩
  · simp only [List.cons.injEq, and_true] at hc
    simp only [if_true] at hmm
    subst hc; subst hmm
    have hone : ∀ i, ∃ x : Span, i < m → ∀ r u, x.cells[r]? = some u → w.cell? (a.add (i * 2 + r)) = some u := fun i => by
      by_cases hi : i < m
      · obtain ⟨ys, n', _, _, _, hf⟩ := hall i hi
        obtain ⟨v0, z0, c0, _, t0⟩ := hf 0 _ rfl
        obtain ⟨v1, z1, c1, _, t1⟩ := hf 1 _ rfl
        obtain ⟨n0, e0, _⟩ := DataW.trod_int Tryd.underlying2 t0
        obtain ⟨n1, e1, _⟩ := DataW.trod_int Tryd.underlying2 t1
        simp only [List.cons.injEq, and_true] at e0 e1
        subst e0; subst e1
        refine ⟨⟨n0, n1⟩, fun _ r u hu => ?_⟩
        match r with
        | 0 => simp [Span.cells] at hu; subst hu; exact c0
        | 1 => simp [Span.cells] at hu; subst hu; exact c1
        | r + 2 => simp [Span.cells] at hu
      · exact ⟨default, fun h => absurd h hi⟩
    obtain ⟨E, hE⟩ := Classical.axiomOfChoice hone
    refine ⟨(List.range len).map E, ?_, ?_⟩
    · have := sliceIn_rows Span.cells 2 (fun _ => rfl) (by omega) w a len m E hl hm (fun i hi => hE i (by omega))
      unfold SpansIn
      simpa using this
    · have h2 := hw (m * 16) (by
        rw [hx]
        simp only [DataW.weights, Tryd.underlying22, bytesSpan]
        simp
        left; omega)
      simp; omega

/-- An api.Func by value. -/
structure FuncArg (w : World) (s : ByteArray) (vp : Value) (regs words : Int) (vc : Value) (params : List Span) (code : List Ins) : Prop where
  hcode : CodeIn w vc code
  hparams : SpansIn w vp params
  nCode : code.length * 40 ≤ 140737488351232
  nParams : params.length * 16 ≤ 140737488351232
  name : s.size ≤ maxLen
  regs : (Lit.int .i64 regs).wf = true
  words : (Lit.int .i64 words).wf = true

set_option maxRecDepth 100000 in
theorem open_func {r : Reach} {b0 : Nat} {v : Value} {d : DataW H} {p : List MemPlace} (hv : Value.okWide Tryd.prog w r b0 25 v) (h : DataW.Trod enc Tryd.prog w base (fun _ => true) true 25 v d p)
    (hw : ∀ m ∈ d.weights Tryd.prog 25, m ≤ reachBytes) :
    ∃ s vp regs words vc params code, v = fnV s vp regs words vc ∧ FuncArg w s vp regs words vc params code := by
  obtain ⟨v0, v1, v2, v3, v4, y0, y1, y2, y3, y4, n, rfl, rfl, rfl, t0, t1, t2, t3, t4⟩ := open_agg5 Tryd.underlying25 (by kernel_rfl) (by kernel_rfl) hv h
  simp only [DataW.weights, Tryd.underlying25, DataW.weightsEach, List.map_cons, List.mem_append] at hw
  obtain ⟨s, e0, _, hs⟩ := DataW.trod_string Tryd.underlying9 t0
  obtain ⟨params, hp, hpn⟩ := open_spans t1 (fun m hm => hw m (.inr (.inl hm)))
  obtain ⟨n2, e2, _, hn2⟩ := DataW.trod_int Tryd.underlying3 t2
  obtain ⟨n3, e3, _, hn3⟩ := DataW.trod_int Tryd.underlying3 t3
  obtain ⟨code, hc, hcn⟩ := open_code t4 (fun m hm => hw m (.inr (.inr (.inr (.inr (.inl hm))))))
  simp only [List.cons.injEq, and_true] at e0 e2 e3
  subst e0; subst e2; subst e3
  exact ⟨s, v1, n2, n3, v4, params, code, rfl, hc, hp, hcn, hpn, hs, hn2, hn3⟩
end
end Go.Proofs.YtapjdndcnenadaaDoor
