/- Maps of lists that the call has made: each key's list lies in a row of its own; three such maps side by side. -/
import Derived.Test.YtapjdndcnenadaaDoorSets
import Derived.Test.YtapjdndcnenadaaDoorFrom
namespace Go.Proofs.YtapjdndcnenadaaDoor
open Go.RowKit Go.Maps
open Go.WideElems (Fit rd rg pl rd_val)

/-- What a slice value reads as, without a look at any world. -/
def sliceD : Value → Option (DataW Unit × List MemPlace)
  | .slice none 0 0 => some (.nil, [])
  | .slice (some ⟨g, 0, none⟩) n c => some (.agg [.lit (.int .i64 g), .lit (.int .i64 n), .lit (.int .i64 c)], [])
  | _ => none
theorem sliceD_nil : sliceD nilV = some (.nil, []) := rfl
theorem sliceD_owns {w : World} {B : Nat} {v : Value} {l : List Int} (h : OwnInts w B v l) : ∃ d, sliceD v = some (d, []) := by
  rcases h.form with ⟨rfl, _⟩ | ⟨g, c, rfl, _⟩
  · exact ⟨_, rfl⟩
  · exact ⟨_, rfl⟩
theorem sliceD_inv {v : Value} {d : DataW Unit} {p : List MemPlace} (h : sliceD v = some (d, p)) : p = [] ∧ ((v = nilV ∧ d = .nil) ∨ ∃ g n c, v = .slice (some ⟨g, 0, none⟩) n c ∧ d = .agg [.lit (.int .i64 (g : Nat)), .lit (.int .i64 (n : Nat)), .lit (.int .i64 (c : Nat))]) := by
  unfold sliceD at h
  split at h
  · cases h; exact ⟨rfl, .inl ⟨rfl, rfl⟩⟩
  · cases h; exact ⟨rfl, .inr ⟨_, _, _, rfl, rfl⟩⟩
  · cases h
theorem sliceD_inj {v v' : Value} {d : DataW Unit} {p p' : List MemPlace} (h : sliceD v = some (d, p)) (h' : sliceD v' = some (d, p')) : v = v' := by
  obtain ⟨_, h⟩ := sliceD_inv h
  obtain ⟨_, h'⟩ := sliceD_inv h'
  rcases h with ⟨rfl, rfl⟩ | ⟨g, n, c, rfl, rfl⟩ <;> rcases h' with ⟨rfl, h2⟩ | ⟨g', n', c', rfl, h2⟩
  · rfl
  · cases h2
  · cases h2
  · simp at h2
    obtain ⟨h1, h2, h3⟩ := h2
    obtain rfl : g = g' := by omega
    obtain rfl : n = n' := by omega
    obtain rfl : c = c' := by omega
    rfl

/-- A slice with something in it. -/
def PosV (v : Value) : Prop := ∃ a n c, v = .slice a (n + 1) c
theorem posV_owns {w : World} {B : Nat} {v : Value} {l : List Int} {u : Int} (h : OwnInts w B v (l ++ [u])) : PosV v := by
  rcases h.form with ⟨_, h⟩ | ⟨g, c, h, _⟩
  · simp at h
  · exact ⟨some ⟨g, 0, none⟩, l.length, c, by rw [h]; simp⟩
theorem PosV.ne {v : Value} (h : PosV v) : v ≠ nilV := by
  obtain ⟨a, n, c, rfl⟩ := h
  intro e; cases e
theorem PosV.list {w : World} {B : Nat} {v : Value} {l : List Int} (h : PosV v) (ho : OwnInts w B v l) : l ≠ [] := by
  obtain ⟨a, n, c, rfl⟩ := h
  rcases ho.form with ⟨h, _⟩ | ⟨g, c, h, _⟩
  · cases h
  · intro e; subst e; simp at h
/-- Block b of w is a map of ints to slices, V's. -/
def GMap (w : World) (b n : Nat) (V : Int → Value) : Prop :=
  ∃ D : DataW Unit, w.ownsMap Tryd.prog 3 sliceD b n D ∧ (∀ y, sliceD (V y) = some (D.atKey (.int .i64 y) .nil, [])) ∧ ∀ y, Maps.has D (.int .i64 y) = true → PosV (V y)
theorem GMap.made (w : World) : GMap (w.alloc (.map #[] 0)) w.heap.size 0 (fun _ => nilV) := ⟨.map [], World.ownsMap_made w _ _ _, fun _ => rfl, fun y h => by simp [Maps.has] at h⟩
theorem GMap.lt {w : World} {b n : Nat} {V : Int → Value} (h : GMap w b n V) : b < w.heap.size := by obtain ⟨D, h, _⟩ := h; exact h.lt
theorem GMap.mono {w : World} {b n n' : Nat} {V : Int → Value} (h : GMap w b n V) (hn : n ≤ n') : GMap w b n' V := by obtain ⟨D, h, r⟩ := h; exact ⟨D, h.mono hn, r⟩
theorem GMap.at_block {w w' : World} {b n : Nat} {V : Int → Value} (h : GMap w b n V) (hb : w'.heap[b]? = w.heap[b]?) : GMap w' b n V := by
  obtain ⟨D, ⟨es, clock, hh, r2⟩, r⟩ := h
  exact ⟨D, ⟨es, clock, hb.trans hh, r2⟩, r⟩
theorem GMap.kept {w w' : World} {b n : Nat} {V : Int → Value} {row : Option Nat} (h : GMap w b n V) (hg : w.grownBy w' row) (hne : some b ≠ row) : GMap w' b n V := h.at_block (hg.block b h.lt hne)
theorem GMap.look {w : World} {b n : Nat} {V : Int → Value} (h : GMap w b n V) {y : Int} (hw : -9223372036854775808 ≤ y ∧ y ≤ 9223372036854775807) : (Instr.lookup 57 (.map (some b)) (.int .i64 y) false).run Tryd.prog w = .ok (V y) w := by
  obtain ⟨D, h, hv, _⟩ := h
  obtain ⟨v, ps, hr, hR⟩ := h.lookup (t := 57) (e := 38) Tryd.intKey Tryd.underlying57 (z := nilV) (by kernel_rfl) sliceD_nil (key := .int .i64 y) (kl := .int .i64 y) (keyOf_int_mk Tryd.underlying3 (WalkArith.wf_i64 hw))
  rw [hr, sliceD_inj hR (hv y)]
theorem GMap.put {w : World} {b n : Nat} {V : Int → Value} (h : GMap w b n V) {y : Int} (hw : -9223372036854775808 ≤ y ∧ y ≤ 9223372036854775807) {v : Value} {d : DataW Unit} (hd : sliceD v = some (d, [])) (hvn : PosV v) (hn : n ≤ 1000000) :
    ∃ w', (Instr.mapUpdate 57 (.map (some b)) (.int .i64 y) v).run Tryd.prog w = .ok () w' ∧ GMap w' b (n + 1) (fun z => if z = y then v else V z) ∧ w.grownBy w' (some b) := by
  obtain ⟨D, h, hv, hk⟩ := h
  obtain ⟨w', hr, h1, h2⟩ := h.update (t := 57) (e := 38) Tryd.intKey Tryd.underlying57 (by unfold maxLen; omega) (key := .int .i64 y) (kl := .int .i64 y) (keyOf_int_mk Tryd.underlying3 (WalkArith.wf_i64 hw)) hd
  refine ⟨w', hr, ⟨_, h1, fun z => ?_, fun z hz => ?_⟩, h2⟩
  · by_cases e : z = y
    · subst e; simp only [if_true]; rw [atKey_put_same h.isMap (isKeyInt _)]; exact hd
    · simp only [if_neg e]; rw [atKey_put_other (fun e2 => e (by cases e2; rfl))]; exact hv z
  · by_cases e : z = y
    · subst e; simp only [if_true]; exact hvn
    · simp only [if_neg e]
      rcases (has_put_iff h.isMap y d (.int .i64 z)).1 hz with h3 | h3
      · cases h3; exact absurd rfl e
      · exact hk z h3

/-- A slice in the map at block b lies in block k. -/
def MVal (w : World) (b k : Nat) : Prop := ∃ es clock, w.heap[b]? = some (.map es clock) ∧ ∃ x ∈ es.toList, x.val.ownBlock = some k
theorem wf_bounds {m : Int} (h : (Lit.int .i64 m).wf = true) : -9223372036854775808 ≤ m ∧ m ≤ 9223372036854775807 := by
  simp [Lit.wf, IntKind.min, IntKind.max, IntKind.signed, IntKind.bits] at h
  omega
theorem GMap.val {w : World} {b n : Nat} {V : Int → Value} (h : GMap w b n V) {k : Nat} (hk : MVal w b k) : ∃ y : Int, (-9223372036854775808 ≤ y ∧ y ≤ 9223372036854775807) ∧ (V y).ownBlock = some k := by
  obtain ⟨D, ⟨es, clock, hh, F, hs, rfl⟩, hv, _⟩ := h
  obtain ⟨es', clock', hh', x, hx, hxk⟩ := hk
  rw [hh] at hh'
  cases hh'
  obtain ⟨y, hy⟩ := F.reads x hx
  obtain ⟨z, hz, _⟩ := rd_val hy
  obtain ⟨m, _, hmk, hwf⟩ := Maps.keyOf_int_inv Tryd.underlying3 (Go.WideElems.rd_key hy)
  have hat := (Go.WideShapes.atKey_sorted (es.toList.map (rg Tryd.prog 3 sliceD)) (Maps.fit_rising Tryd.intKey F) (.int .i64 m) (isKeyInt m)).2 (rg Tryd.prog 3 sliceD x) (List.mem_map.2 ⟨x, hx, rfl⟩) (by rw [Go.WideElems.rg_of hy]; exact hmk) .nil
  have h1 := hv m
  rw [hat, Go.WideElems.rg_of hy] at h1
  rename_i h2 _
  obtain ⟨z1, z2⟩ := z
  simp only at h2
  rw [h2] at h1
  exact ⟨m, wf_bounds hwf, by rw [← sliceD_inj hz h1]; exact hxk⟩
theorem GMap.of_val {w : World} {b n : Nat} {V : Int → Value} (h : GMap w b n V) {y : Int} (hw : -9223372036854775808 ≤ y ∧ y ≤ 9223372036854775807) {k : Nat} (hk : (V y).ownBlock = some k) : MVal w b k := by
  obtain ⟨D, ⟨es, clock, hh, F, hs, rfl⟩, hv, _⟩ := h
  have h1 := hv y
  rcases Maps.fit_look (e := 38) false Tryd.intKey Tryd.underlying57 (z := nilV) (by kernel_rfl) hh F (key := .int .i64 y) (kl := .int .i64 y) (keyOf_int_mk Tryd.underlying3 (WalkArith.wf_i64 hw)) with ⟨_, _, hat⟩ | ⟨e0, y', hm0, h3, _, hR, hat, _⟩
  · rw [hat] at h1
    rw [sliceD_inj h1 sliceD_nil] at hk
    simp [Value.ownBlock] at hk
  · rw [hat] at h1
    obtain ⟨y1, y2⟩ := y'
    exact ⟨es, clock, hh, e0, hm0, by rw [sliceD_inj hR h1]; exact hk⟩

/-- Three maps of lists side by side, the rows from block B on, no two in one row. -/
structure GG (W : World) (b0 B N : Nat) (V : Nat → Int → Value) (f : Nat → Int → List Int) : Prop where
  map : ∀ i, i < 3 → GMap W (b0 + i) N (V i)
  each : ∀ i y, i < 3 → OwnInts W B (V i y) (f i y)
  apart : ∀ i j y z, i < 3 → j < 3 → (i ≠ j ∨ y ≠ z) → ∀ k, (V i y).ownBlock = some k → (V j z).ownBlock ≠ some k
  low : b0 + 3 ≤ B
theorem GG.row {W : World} {b0 B N : Nat} {V : Nat → Int → Value} {f : Nat → Int → List Int} (h : GG W b0 B N V f) {i : Nat} {y : Int} {k : Nat} (hi : i < 3) (hk : (V i y).ownBlock = some k) : B ≤ k ∧ k < W.heap.size := World.ownsRow.lt (h.each i y hi) k hk
theorem GG.later {W W' : World} {b0 B N : Nat} {V : Nat → Int → Value} {f : Nat → Int → List Int} (h : GG W b0 B N V f) (hb : Below W.heap.size W W') : GG W' b0 B N V f :=
  ⟨fun i hi => (h.map i hi).at_block (hb.block _ (h.map i hi).lt), fun i y hi => ownsRow_below (h.each i y hi) hb (Nat.le_refl _), h.apart, h.low⟩
theorem GG.turn {W W' : World} {row : Option Nat} {b0 B N : Nat} {V : Nat → Int → Value} {f : Nat → Int → List Int} (h : GG W b0 B N V f) (hg : W.grownBy W' row) (hr : ∀ r, row = some r → b0 + 3 ≤ r ∧ ∃ o : Obj, W.heap[r]? = some o ∧ o.isCells = false) : GG W' b0 B N V f :=
  ⟨fun i hi => (h.map i hi).kept hg (fun e => by have := (hr _ e.symm).1; omega), fun i y hi => ownsRow_turn (h.each i y hi) hg (fun r e => (hr r e).2), h.apart, h.low⟩

/-- 'm[x] = append(m[x], u)' in one of the maps. -/
theorem GG.grow {W w1 w2 : World} {b0 B N : Nat} {V : Nat → Int → Value} {f : Nat → Int → List Int} (h : GG W b0 B N V f) {i : Nat} {x u : Int} (hi : i < 3) {o : Obj} {v' : Value} (ho : OwnInts w1 B v' (f i x ++ [u]))
    (hgr : (W.alloc o).grownBy w1 (V i x).ownBlock) (hfr : Fresh (W.alloc o) (V i x) v') (hm : GMap w2 (b0 + i) (N + 1) (fun z => if z = x then v' else V i z)) (hg2 : w1.grownBy w2 (some (b0 + i))) :
    GG w2 b0 B (N + 1) (fun j y => if j = i ∧ y = x then v' else V j y) (fun j y => if j = i ∧ y = x then f i x ++ [u] else f j y) := by
  have hlow := h.low
  have hrow : ∀ j y k, j < 3 → (V j y).ownBlock = some k → B ≤ k ∧ k < W.heap.size := fun j y k hj hk => h.row hj hk
  have hsz : (W.alloc o).heap.size = W.heap.size + 1 := World.size_alloc _ _
  refine ⟨fun j hj => ?_, fun j y hj => ?_, fun j j' y y' hj hj' hne k hk hk' => ?_, h.low⟩
  · by_cases e : j = i
    · subst e
      simp only [true_and]
      exact hm
    · simp only [e, false_and, if_false]
      refine GMap.mono ?_ (Nat.le_succ N)
      refine GMap.kept (GMap.kept ((h.map j hj).at_block ?_) hgr ?_) hg2 ?_
      · exact ((Below.refl W.heap.size W).alloc (Nat.le_refl _) o).block _ (h.map j hj).lt
      · intro e2; have := (hrow i x _ hi e2.symm).1; omega
      · intro e2; have := Option.some.inj e2; omega
  · have own_ne : ∀ (v : Value) (l : List Int), OwnInts w1 B v l → v.ownBlock = none ∨ v.ownBlock ≠ some (b0 + i) := fun v l hv => by
      cases hv' : v.ownBlock with
      | none => exact .inl rfl
      | some g =>
        refine .inr (fun e => ?_)
        have := (World.ownsRow.lt hv g hv').1
        have := Option.some.inj e
        omega
    by_cases e : j = i ∧ y = x
    · simp only [if_pos e]
      exact World.ownsRow.kept ho hg2 (own_ne _ _ ho)
    · simp only [if_neg e]
      have h1 : OwnInts w1 B (V j y) (f j y) := by
        refine (World.ownsRow.alloc (h.each j y hj) o).kept hgr ?_
        cases hv : (V j y).ownBlock with
        | none => exact .inl rfl
        | some k => exact .inr (fun e2 => h.apart j i y x hj hi (by
            by_cases e3 : j = i
            · exact .inr (fun e4 => e ⟨e3, e4⟩)
            · exact .inl e3) k hv e2.symm)
      exact World.ownsRow.kept h1 hg2 (own_ne _ _ h1)
  · have old : ∀ a z k, a < 3 → ¬ (a = i ∧ z = x) → (V a z).ownBlock = some k → v'.ownBlock ≠ some k := fun a z k ha hn hk hv => by
      have hlt := (hrow a z k ha hk).2
      refine hfr k (by omega) (fun e => ?_) hv
      exact h.apart a i z x ha hi (by
        by_cases e3 : a = i
        · exact .inr (fun e4 => hn ⟨e3, e4⟩)
        · exact .inl e3) k hk e
    by_cases e : j = i ∧ y = x
    · rw [if_pos e] at hk
      have e' : ¬ (j' = i ∧ y' = x) := fun e2 => by
        rcases hne with hne | hne
        · exact hne (e.1.trans e2.1.symm)
        · exact hne (e.2.trans e2.2.symm)
      rw [if_neg e'] at hk'
      exact old j' y' k hj' e' hk' hk
    · rw [if_neg e] at hk
      by_cases e' : j' = i ∧ y' = x
      · rw [if_pos e'] at hk'
        exact old j y k hj e hk hk'
      · rw [if_neg e'] at hk'
        exact h.apart j j' y y' hj hj' hne k hk hk'

/-- The rows of the three maps. -/
def gM (b0 B : Nat) (W : World) (k : Nat) : Prop := B ≤ k ∧ ∃ i, i < 3 ∧ MVal W (b0 + i) k
theorem MVal.at_block {w w' : World} {b k : Nat} (h : MVal w b k) (hb : w'.heap[b]? = w.heap[b]?) : MVal w' b k := by
  obtain ⟨es, clock, hh, r⟩ := h
  exact ⟨es, clock, hb.trans hh, r⟩
theorem gM_fit (b0 B n0 Bf C : Nat) (h1 : n0 ≤ B) (h2 : Bf < B) (h3 : b0 + 3 ≤ C) : MFit (gM b0 B) n0 Bf C := by
  refine ⟨fun W k h => ⟨by have := h.1; omega, by have := h.1; omega⟩, fun W W' hB hg k h => ?_, fun W l o o' hl h ho k hk => ?_⟩
  · obtain ⟨h, i, hi, hk⟩ := h
    exact ⟨h, i, hi, hk.at_block (hg.block (b0 + i) (by omega) (by intro e; cases e)).symm⟩
  · obtain ⟨h', i, hi, hk⟩ := hk
    exact ⟨h', i, hi, hk.at_block (World.putObj_heap_other (by omega)).symm⟩
theorem gM_lt {W : World} {b0 B N : Nat} {V : Nat → Int → Value} {f : Nat → Int → List Int} (h : GG W b0 B N V f) (k : Nat) (hk : gM b0 B W k) : k < W.heap.size := by
  obtain ⟨_, i, hi, hk⟩ := hk
  obtain ⟨y, _, hy⟩ := (h.map i hi).val hk
  exact (h.row hi hy).2
theorem gM_keeps {W w1 w2 : World} {b0 B N : Nat} {V : Nat → Int → Value} {f : Nat → Int → List Int} (h : GG W b0 B N V f) {i : Nat} {x u : Int} (hi : i < 3) (hx : -9223372036854775808 ≤ x ∧ x ≤ 9223372036854775807) {o : Obj} {v' : Value} (ho : OwnInts w1 B v' (f i x ++ [u]))
    (hgr : (W.alloc o).grownBy w1 (V i x).ownBlock) (hfr : Fresh (W.alloc o) (V i x) v') (hm : GMap w2 (b0 + i) (N + 1) (fun z => if z = x then v' else V i z)) (hg2 : w1.grownBy w2 (some (b0 + i))) : KM (gM b0 B) W w2 ∧ KeepsFrom B W w2 := by
  have hG := h.grow hi ho hgr hfr hm hg2
  have hlow := h.low
  have hsz := hgr.size
  rw [World.size_alloc] at hsz
  have hsz2 := hg2.size
  have hbl : ∀ k, k < W.heap.size → some k ≠ (V i x).ownBlock → k ≠ b0 + i → w2.heap[k]? = W.heap[k]? := fun k hk h1 h2 => by
    rw [hg2.block k (by omega) (fun e => h2 (Option.some.inj e)), hgr.block k (by rw [World.size_alloc]; omega) h1]
    exact ((Below.refl W.heap.size W).alloc (Nat.le_refl _) o).block k hk
  refine ⟨⟨by omega, fun k c e fz hk hnm => ?_, fun k hk => ?_, fun _ k hk => gM_lt hG k hk⟩, ⟨by omega, fun k o' hk hko hc => ?_⟩⟩
  · have hlt : k < W.heap.size := (Array.getElem?_eq_some_iff.1 hk).1
    rw [hbl k hlt ?_ ?_]
    · exact hk
    · intro e2
      exact hnm ⟨(h.row hi e2.symm).1, i, hi, (h.map i hi).of_val hx e2.symm⟩
    · intro e2; subst e2
      obtain ⟨D, ⟨es, clock, hh, _⟩, _⟩ := h.map i hi
      rw [hh] at hk; cases hk
  · obtain ⟨h1, j, hj, hv⟩ := hk
    by_cases hlt : k < W.heap.size
    · left
      obtain ⟨y, hyw, hy⟩ := (hG.map j hj).val hv
      by_cases e : j = i ∧ y = x
      · simp only [if_pos e] at hy
        obtain ⟨rfl, rfl⟩ := e
        refine ⟨h1, j, hi, (h.map j hi).of_val hx ?_⟩
        apply Classical.byContradiction
        intro hne
        exact hfr k (by rw [World.size_alloc]; omega) hne hy
      · simp only [if_neg e] at hy
        refine ⟨h1, j, hj, ?_⟩
        exact (h.map j hj).of_val hyw hy
    · exact .inr (by omega)
  · have hlt : k < W.heap.size := (Array.getElem?_eq_some_iff.1 hko).1
    rw [hbl k hlt ?_ (by omega)]
    · exact hko
    · intro e2
      rcases (h.each i x hi).2 with ⟨h2, _⟩ | ⟨g, cp, cur, h2, _, h3, _⟩
      · rw [h2] at e2; simp [Value.ownBlock] at e2
      · rw [h2] at e2
        have : k = g := by simpa [Value.ownBlock] using e2
        subst this
        rw [h3] at hko; cases hko; cases hc
end Go.Proofs.YtapjdndcnenadaaDoor
