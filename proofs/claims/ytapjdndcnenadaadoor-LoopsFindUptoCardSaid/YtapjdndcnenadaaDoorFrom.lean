/- The lists of those that lead to each instruction, as the program makes them: a list of lists. -/
import Derived.Test.YtapjdndcnenadaaDoorTreePlain
import Derived.Test.YtapjdndcnenadaaDoorTold0
import Derived.Test.YtapjdndcnenadaaDoorBlocks0
namespace Go.Proofs.YtapjdndcnenadaaDoor
open Go.RowKit

/-- Those from which one comes to v, by a list of edges. -/
def preL (es : List Edge) (v : Nat) : List Int := (es.filter fun e => decide (e.2 = (v : Int))).map (·.1)
theorem preL_snoc (es : List Edge) (e : Edge) (v : Nat) : preL (es ++ [e]) v = preL es v ++ if e.2 = (v : Int) then [e.1] else [] := by
  unfold preL
  rw [List.filter_append, List.map_append]
  by_cases h : e.2 = (v : Int) <;> simp [h]
theorem preL_len (es : List Edge) (v : Nat) : (preL es v).length ≤ es.length := by
  unfold preL; rw [List.length_map]; exact List.length_filter_le _ _
/-- As plain numbers. -/
noncomputable def predsL (code : List Ins) (v : Nat) : List Nat := (preL (edgesL code) v).map Int.toNat
theorem predsL_ints (code : List Ins) (v : Nat) : preL (edgesL code) v = (predsL code v).map Int.ofNat := by
  unfold predsL
  rw [List.map_map]
  conv => lhs; rw [← List.map_id (preL (edgesL code) v)]
  refine List.map_congr_left fun x hx => ?_
  obtain ⟨e, he, rfl⟩ := List.mem_map.1 hx
  have := (edgesL_mem (List.mem_filter.1 he).1).1
  simp; omega
theorem predsL_ok {code : List Ins} (hh : hasB code = true) (v : Nat) : Preds code v (predsL code v) := by
  intro u
  unfold predsL preL
  rw [List.map_map, List.mem_map]
  constructor
  · rintro ⟨e, he, rfl⟩
    obtain ⟨he, hv⟩ := List.mem_filter.1 he
    obtain ⟨m1, m2, m3, m4, m5, _, m7, _⟩ := edgesL_mem he
    have hv : e.2 = (v : Int) := by simpa using hv
    simp only [Function.comp]
    refine ⟨m7, ?_⟩
    rw [← hv, show ((e.1.toNat : Nat) : Int) = e.1 by omega]
    exact m5
  · rintro ⟨hu, hv⟩
    exact ⟨((u : Int), (v : Int)), List.mem_filter.2 ⟨edgesL_of hh hu hv, by simp⟩, by simp⟩

theorem ints_any {w : World} {B : Nat} {v : Value} {l : List Int} (h : OwnInts w B v l) : ∃ a n c, v = .slice a n c := by
  obtain ⟨a, c, h⟩ := ints_form h
  exact ⟨a, _, c, h⟩

abbrev nilV : Value := .slice none 0 0

/-- Block F holds n lists of ints of the call's own, in blocks from B on, each in one of its own. -/
structure FromIn (W : World) (B F n : Nat) (vs : List Value) (ls : Nat → List Int) : Prop where
  row : W.ownsRow F 38 1 (.slice (some ⟨F, 0, none⟩) n n) n vs
  each : ∀ v, v < n → OwnInts W B (vs.getD v nilV) (ls v)
  apart : ∀ u v, u < n → v < n → u ≠ v → ∀ k, (vs.getD u nilV).ownBlock = some k → (vs.getD v nilV).ownBlock ≠ some k
  low : F < B

theorem FromIn.len {W : World} {B F n : Nat} {vs : List Value} {ls : Nat → List Int} (h : FromIn W B F n vs ls) : vs.length = n := by have := h.row.1; omega
theorem FromIn.cell {W : World} {B F n : Nat} {vs : List Value} {ls : Nat → List Int} (h : FromIn W B F n vs ls) {v : Nat} (hv : v < n) : W.cell? ⟨F, v, none⟩ = some (vs.getD v nilV) := by
  have hl := h.len
  rw [World.ownsRow.cellAt h.row v (by omega)]
  simp [List.getD, hl, hv]
theorem FromIn.free {W : World} {B F n : Nat} {vs : List Value} {ls : Nat → List Int} (h : FromIn W B F n vs ls) (v : Nat) : W.frozen? ⟨F, v, none⟩ = false := World.ownsRow.frozenAt h.row v
theorem FromIn.later {W W' : World} {B F n : Nat} {vs : List Value} {ls : Nat → List Int} (h : FromIn W B F n vs ls) (hb : Below W.heap.size W W') : FromIn W' B F n vs ls :=
  ⟨ownsRow_below h.row hb (Nat.le_refl _), fun v hv => ownsRow_below (h.each v hv) hb (Nat.le_refl _), h.apart, h.low⟩
theorem FromIn.turn {W W' : World} {row : Option Nat} {B F n : Nat} {vs : List Value} {ls : Nat → List Int} (h : FromIn W B F n vs ls) (hg : W.grownBy W' row) (hr : ∀ r, row = some r → ∃ o : Obj, W.heap[r]? = some o ∧ o.isCells = false) : FromIn W' B F n vs ls :=
  ⟨ownsRow_turn h.row hg hr, fun v hv => ownsRow_turn (h.each v hv) hg hr, h.apart, h.low⟩
/-- A store elsewhere. -/
theorem FromIn.other {W : World} {B F n : Nat} {vs : List Value} {ls : Nat → List Int} (h : FromIn W B F n vs ls) {p : Addr} (hp : p.block < F) (u : Value) : FromIn (W.setCell p u) B F n vs ls :=
  ⟨ownsRow_setCell_below h.row hp _, fun v hv => ownsRow_setCell_below (h.each v hv) (by have := h.low; omega) _, h.apart, h.low⟩

theorem getD_set_val (l : List Value) (i j : Nat) (x : Value) (hi : i < l.length) : (l.set i x).getD j nilV = if j = i then x else l.getD j nilV := by
  simp only [List.getD_eq_getElem?_getD, List.getElem?_set]
  by_cases h : i = j
  · subst h; simp [hi]
  · rw [if_neg h, if_neg (fun e => h e.symm)]

/-- 'from[v] = append(from[v], u)'. -/
theorem FromIn.grow {W w' : World} {B F n : Nat} {vs : List Value} {ls : Nat → List Int} (h : FromIn W B F n vs ls) {v : Nat} (hv : v < n) {u : Int} {o : Obj} {v' : Value}
    (ho : OwnInts w' B v' (ls v ++ [u])) (hgr : (W.alloc o).grownBy w' (vs.getD v nilV).ownBlock) (hfr : Fresh (W.alloc o) (vs.getD v nilV) v') :
    FromIn (w'.setCell ⟨F, v, none⟩ v') B F n (vs.set v v') (fun x => if x = v then ls v ++ [u] else ls x) := by
  have hl := h.len
  have hlow := h.low
  have hobv : ∀ x, x < n → ∀ k, (vs.getD x nilV).ownBlock = some k → B ≤ k := fun x hx k hk => (World.ownsRow.lt (h.each x hx) k hk).1
  have hob : ∀ k, v'.ownBlock = some k → B ≤ k := fun k hk => (World.ownsRow.lt ho k hk).1
  have hrow : w'.ownsRow F 38 1 (.slice (some ⟨F, 0, none⟩) n n) n vs := (World.ownsRow.alloc h.row _).kept hgr (.inr (fun e => by
    have : B ≤ F := hobv v hv F e.symm
    omega))
  refine ⟨?_, fun x hx => ?_, fun x y hx hy hxy k hk h5 => ?_, h.low⟩
  · exact (World.ownsRow.stored hrow v v').1
  · rw [getD_set_val _ _ _ _ (by omega)]
    by_cases hxv : x = v
    · subst hxv
      simp only [if_true]
      exact ownsRow_setCell_other ho (fun e => by have : B ≤ F := hob F e; omega) _
    · simp only [if_neg hxv]
      refine ownsRow_setCell_other ((World.ownsRow.alloc (h.each x hx) _).kept hgr ?_) (fun e => by have : B ≤ F := hobv x hx F e; omega) _
      cases hxo : (vs.getD x nilV).ownBlock with
      | none =>
        left; rfl
      | some k => right; exact fun e => h.apart x v hx hv hxv k hxo e.symm
  · rw [getD_set_val _ _ _ _ (by omega)] at hk h5
    have hlt : ∀ z, z < n → ∀ q, (vs.getD z nilV).ownBlock = some q → q < (W.alloc o).heap.size := fun z hz q hq => by
      have := (World.ownsRow.lt (h.each z hz) q hq).2
      simp; omega
    by_cases hxv : x = v
    · subst hxv
      rw [if_pos rfl] at hk
      rw [if_neg (fun e => hxy e.symm)] at h5
      exact hfr k (hlt y hy k h5) (fun e => h.apart x y hx hy hxy k e h5) hk
    · rw [if_neg hxv] at hk
      by_cases hyv : y = v
      · subst hyv
        rw [if_pos rfl] at h5
        exact hfr k (hlt x hx k hk) (fun e => h.apart x y hx hy hxy k hk e) h5
      · rw [if_neg hyv] at h5
        exact h.apart x y hx hy hxy k hk h5

theorem Tryd.infoRow : (Tryd.prog.info? 38).map (fun i => (i.zero, i.size, i.bytes)) = some (some nilV, 1, 24) := by kernel_rfl
def nilRows (n : Nat) : Array Value := (List.replicate n nilV).toArray
theorem make_rows_run (n : Nat) (hn : n ≤ 1000000000) (w : World) : (Instr.makeSlice 50 (.int .i64 (n : Int)) (.int .i64 (n : Int))).run Tryd.prog w = .ok (.slice (some ⟨w.heap.size, 0, none⟩) n n) (w.alloc (.cells (nilRows n) 38)) := by
  obtain ⟨i0, hi0, hz0, hz1, hz2⟩ := info_parts Tryd.infoRow
  have e : madeCells (nilV : Value).cells (n * 1) = nilRows n := by
    apply Array.toList_inj.1
    rw [show (nilV : Value).cells = #[nilV] from rfl, toList_madeCells_one]; simp [nilRows]
  have h := run_make (P := Tryd.prog) w 50 38 i0 nilV Tryd.underlying50 hi0 hz0 .i64 .i64 (n : Int) (n : Int) (by omega) (Int.le_refl _) (by rw [hz2]; omega) (by omega)
  rw [hz1, Int.toNat_natCast, e] at h
  exact h
theorem FromIn.start (w : World) {B : Nat} (n : Nat) (hn : n ≤ 1000000000) (hB : w.heap.size < B) : FromIn (w.alloc (.cells (nilRows n) 38)) B w.heap.size n (List.replicate n nilV) (fun _ => []) := by
  have e : ∀ v, (List.replicate n nilV).getD v nilV = nilV := fun v => by simp only [List.getD_eq_getElem?_getD, List.getElem?_replicate]; split <;> rfl
  refine ⟨?_, fun v _ => ?_, fun u v _ _ _ k hk => ?_, hB⟩
  · have := World.ownsRow_lit (base := w.heap.size) (e := 38) (size := 1) w (nilRows n) n (Nat.le_refl _) (by unfold maxLen; omega) (by simp [nilRows])
    simpa [nilRows] using this
  · rw [e]; exact World.ownsRow_nil _ _ _ _
  · rw [e] at hk; simp [Value.ownBlock] at hk

/-- The blocks that the loop over the edges writes: the list of lists, and the lists. -/
def fromM (B F n : Nat) (W : World) (k : Nat) : Prop := k = F ∨ (B ≤ k ∧ ∃ v len cap, v < n ∧ W.cell? ⟨F, v, none⟩ = some (.slice (some ⟨k, 0, none⟩) len cap))
theorem fromM_fit (B F n n0 Bf : Nat) (h1 : n0 ≤ F) (h2 : F < Bf) (h3 : Bf < B) : MFit (fromM B F n) n0 Bf B := by
  refine ⟨fun W k h => ?_, fun W W' hB hg k h => ?_, fun W l o o' hl h ho k hk => ?_⟩
  · rcases h with rfl | ⟨h, _⟩ <;> exact ⟨by omega, by omega⟩
  · rcases h with rfl | ⟨h, v, len, cap, hv, hc⟩
    · exact .inl rfl
    · refine .inr ⟨h, v, len, cap, hv, ?_⟩
      have e : W'.heap[F]? = W.heap[F]? := hg.block F (by omega) (by intro e; cases e)
      unfold World.cell? at *
      rw [e] at hc
      exact hc
  · rcases hk with rfl | ⟨h', v, len, cap, hv, hc⟩
    · exact .inl rfl
    · refine .inr ⟨h', v, len, cap, hv, ?_⟩
      have e : (W.putObj l o').heap[F]? = W.heap[F]? := World.putObj_heap_other (by omega)
      unfold World.cell? at *
      rw [e] at hc
      exact hc
theorem fromM_lt {W : World} {B F n : Nat} {vs : List Value} {ls : Nat → List Int} (h : FromIn W B F n vs ls) (k : Nat) (hk : fromM B F n W k) : k < W.heap.size := by
  rcases hk with rfl | ⟨_, v, len, cap, hv, hc⟩
  · exact (World.ownsRow.lt h.row _ rfl).2
  · rw [h.cell hv] at hc
    have := Option.some.inj hc
    exact (World.ownsRow.lt (h.each v hv) k (by rw [this]; rfl)).2

/-- A round of the loop keeps what is not its own. -/
theorem fromM_keeps {W w' : World} {B F n : Nat} {vs : List Value} {ls : Nat → List Int} (h : FromIn W B F n vs ls) {v : Nat} (hv : v < n) {o : Obj} {v' : Value} {l2 : List Int} (ho : OwnInts w' B v' l2)
    (hgr : (W.alloc o).grownBy w' (vs.getD v nilV).ownBlock) (hfr : Fresh (W.alloc o) (vs.getD v nilV) v') : KM (fromM B F n) W (w'.setCell ⟨F, v, none⟩ v') := by
  have hl := h.len
  have hlow := h.low
  have hsz := hgr.size
  rw [World.size_alloc] at hsz
  have hrow : w'.ownsRow F 38 1 (.slice (some ⟨F, 0, none⟩) n n) n vs := (World.ownsRow.alloc h.row _).kept hgr (.inr (fun e => by
    have : B ≤ F := (World.ownsRow.lt (h.each v hv) F e.symm).1
    omega))
  have hcell : ∀ x, x < n → (w'.setCell ⟨F, v, none⟩ v').cell? ⟨F, x, none⟩ = some (if x = v then v' else vs.getD x nilV) := fun x hx => by
    have := World.ownsRow.cellAt (World.ownsRow.stored hrow v v').1 x (by omega)
    rw [this, List.getElem?_set]
    by_cases hxv : v = x
    · subst hxv; simp [hl, hv]
    · rw [if_neg hxv, if_neg (fun e => hxv e.symm)]; simp [List.getD, hl, hx]
  refine ⟨by rw [size_set]; omega, fun k c e fz hk hm => ?_, fun k hk => ?_, fun hlt k hk => ?_⟩
  · have hkF : k ≠ F := fun e => hm (.inl e)
    have hklt : k < W.heap.size := (Array.getElem?_eq_some_iff.1 hk).1
    rw [Below.heap_setCell _ _ _ _ hkF]
    have e2 : (W.alloc o).heap[k]? = W.heap[k]? := by
      exact (Below.alloc (Below.refl W.heap.size W) (Nat.le_refl _) o).block k hklt
    rw [hgr.block k (by rw [World.size_alloc]; omega) (fun e => ?_), e2]; exact hk
    refine hm (.inr ?_)
    rcases (h.each v hv).form with ⟨h2, _⟩ | ⟨g, cp, h2, h3, _⟩
    · rw [h2] at e; simp [Value.ownBlock] at e
    · rw [h2] at e
      have : k = g := by simpa [Value.ownBlock] using e
      subst this
      exact ⟨h3, v, _, cp, hv, by rw [h.cell hv, h2]⟩
  · rcases hk with rfl | ⟨h1, x, len, cap, hx, hc⟩
    · exact .inl (.inl rfl)
    · rw [hcell x hx] at hc
      have hc := Option.some.inj hc
      by_cases hxv : x = v
      · rw [if_pos hxv] at hc
        by_cases hkl : k < W.heap.size
        · left; right
          refine ⟨h1, ?_⟩
          have : (vs.getD v nilV).ownBlock = some k := Classical.byContradiction fun e => hfr k (by rw [World.size_alloc]; omega) e (by rw [hc]; rfl)
          rcases (h.each v hv).form with ⟨h2, _⟩ | ⟨g, cp, h2, h3, _⟩
          · rw [h2] at this; simp [Value.ownBlock] at this
          · rw [h2] at this
            have : g = k := by simpa [Value.ownBlock] using this
            subst this
            exact ⟨v, _, cp, hv, by rw [h.cell hv, h2]⟩
        · exact .inr (by omega)
      · rw [if_neg hxv] at hc
        exact .inl (.inr ⟨h1, x, len, cap, hx, by rw [h.cell hx, hc]⟩)
  · rw [size_set]
    rcases hk with rfl | ⟨h1, x, len, cap, hx, hc⟩
    · have := (World.ownsRow.lt hrow k rfl).2; exact this
    · rw [hcell x hx] at hc
      have hc := Option.some.inj hc
      by_cases hxv : x = v
      · rw [if_pos hxv] at hc
        exact (World.ownsRow.lt ho k (by rw [hc]; rfl)).2
      · rw [if_neg hxv] at hc
        have := (World.ownsRow.lt (h.each x hx) k (by rw [hc]; rfl)).2
        omega

/-- 'append(list, y)' within a region that draws its order. -/
theorem append_int_wp {o : Oper} {a : Act} {K : Act → World → Prop} {Q : Exit → Act → World → Prop} {w : World} (s x : Operand)
    (ho : o.op = .call { callee := .builtin .append, args := #[s, x], argTypes := #[38, 38] })
    (B : Nat) (v : Value) (l : List Int) (hs : a.eval s = v) (hown : OwnInts w B v l) (y : Int) (g : Nat) (hx : a.eval x = .slice (some ⟨g, 0, none⟩) 1 1) (hg : w.heap.size = g)
    (hl : l.length ≤ 1000000000000) (hB : B ≤ w.heap.size)
    (h : ∀ v' w', OwnInts w' B v' (l ++ [y]) → (w.alloc (.cells #[.int .i64 y] 3)).grownBy w' v.ownBlock → Fresh (w.alloc (.cells #[.int .i64 y] 3)) v v' → (∀ C w0, Below C w0 w → C ≤ B → Below C w0 w') → K (a.put o.dst v') w') :
    o.wp Tryd.prog a (w.alloc (.cells #[.int .i64 y] 3)) K Q := by
  subst hg
  obtain ⟨v', w', hr, h2, h3, h4⟩ := append_run (P := Tryd.prog) (w := w.alloc (.cells #[.int .i64 y] 3)) (t := 38) (ty := o.type) Tryd.underlying38 Tryd.infoInt rfl (by decide) B v l.length (intVs l) (World.ownsRow.alloc hown _) _ 1 [.int .i64 y] (sliceIn_new w [.int .i64 y] 1 1 3 rfl (by decide))
    (by intro u hu; simp at hu; subst hu; rfl) (by unfold maxLen; omega) (by omega) (by simp; omega)
  unfold Oper.wp execOp
  simp only [ho, resolve, invoke, builtin, Sem.run_bind, Sem.run_pure, Result.andThen_ok, List.map_toArray, List.map_cons, List.map_nil, hs, hx, hr]
  refine h v' w' (by unfold OwnInts intVs at *; simpa using h2) h3 h4 fun C w0 hb hC => (hb.alloc (by omega) _).grown h3 (by rw [World.size_alloc]; omega) fun k hk => ?_
  have := (World.ownsRow.lt hown k hk).1
  omega
end Go.Proofs.YtapjdndcnenadaaDoor
