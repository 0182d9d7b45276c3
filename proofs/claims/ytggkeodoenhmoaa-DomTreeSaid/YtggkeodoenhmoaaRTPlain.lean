/- R13.Tree: the plain law (of all that dominate it, the one that most dominate is the nearest), and the rows in memory. -/
import Derived.Test.YtggkeodoenhmoaaDominates
import Derived.Test.YtggkeodoenhmoaaWithout
namespace Go.Proofs.Ytggkeodoenhmoaa
open Go.RowKit

theorem domB_nat {code : List Ins} {a b : Nat} (hh : hasB code = true) (ha : a < code.length) (hb : b < code.length) : domB code a b = true ↔ Dom code a b := by
  rw [domB_iff]
  constructor
  · rintro ⟨_, _, _, _, _, h⟩; simpa using h
  · intro h; exact ⟨hh, by omega, by omega, by omega, by omega, by simpa using h⟩

/-- How many of the first k dominate b. -/
noncomputable def dmTo (code : List Ins) (k b : Nat) : Nat := (List.range k).countP fun a : Nat => domB code (a : Int) (b : Int)
theorem dmTo_yes {code : List Ins} {k b : Nat} (h : domB code k b = true) : dmTo code (k + 1) b = dmTo code k b + 1 := by
  unfold dmTo; rw [List.range_succ, List.countP_append]; simp [h]
theorem dmTo_no {code : List Ins} {k b : Nat} (h : domB code k b = false) : dmTo code (k + 1) b = dmTo code k b := by
  unfold dmTo; rw [List.range_succ, List.countP_append]; simp [h]
theorem dmTo_le (code : List Ins) (k b : Nat) : dmTo code k b ≤ k := by
  unfold dmTo
  have := List.countP_le_length (p := fun a : Nat => domB code a b) (l := List.range k)
  simpa using this
theorem dmTo_all {code : List Ins} {b : Nat} (hh : hasB code = true) (hb : b < code.length) : dmTo code code.length b = domCount code b := by
  unfold dmTo domCount
  apply List.countP_congr
  intro a ha
  rw [domB_nat hh (List.mem_range.1 ha) hb]
  simp

/-- The best of the first j. -/
def Best (code : List Ins) (b j : Nat) (y : Int) : Prop :=
  (y = -1 ∧ ∀ x, x < j → x ≠ b → ¬ Dom code x b) ∨ ∃ p : Nat, y = (p : Int) ∧ p < j ∧ p ≠ b ∧ Dom code p b ∧ ∀ x, x < j → x ≠ b → Dom code x b → domCount code x ≤ domCount code p
theorem Best.zero (code : List Ins) (b : Nat) : Best code b 0 (-1) := .inl ⟨rfl, fun x hx => absurd hx (Nat.not_lt_zero x)⟩
theorem Best.skip {code : List Ins} {b j : Nat} {y : Int} (h : Best code b j y) (hn : j = b ∨ ¬ Dom code j b) : Best code b (j + 1) y := by
  rcases h with ⟨h1, h2⟩ | ⟨p, h1, h2, h3, h4, h5⟩
  · refine .inl ⟨h1, fun x hx hxb hd => ?_⟩
    by_cases e : x = j
    · subst e; rcases hn with hn | hn
      · exact hxb hn
      · exact hn hd
    · exact h2 x (by omega) hxb hd
  · refine .inr ⟨p, h1, by omega, h3, h4, fun x hx hxb hd => ?_⟩
    by_cases e : x = j
    · subst e; rcases hn with hn | hn
      · exact absurd hn hxb
      · exact absurd hd hn
    · exact h5 x (by omega) hxb hd
theorem Best.first {code : List Ins} {b j : Nat} {y : Int} (h : Best code b j y) (hy : y < 0) (hj : j ≠ b) (hd : Dom code j b) : Best code b (j + 1) (j : Int) := by
  rcases h with ⟨h1, h2⟩ | ⟨p, h1, h2, h3, h4, h5⟩
  · refine .inr ⟨j, rfl, by omega, hj, hd, fun x hx hxb hdx => ?_⟩
    by_cases e : x = j
    · subst e; exact Nat.le_refl _
    · exact absurd hdx (h2 x (by omega) hxb)
  · omega
theorem Best.take {code : List Ins} {b j p : Nat} (h : Best code b j (p : Int)) (hj : j ≠ b) (hd : Dom code j b) (hlt : domCount code p < domCount code j) : Best code b (j + 1) (j : Int) := by
  rcases h with ⟨h1, h2⟩ | ⟨q, h1, h2, h3, h4, h5⟩
  · omega
  · have e : p = q := by omega
    subst e
    refine .inr ⟨j, rfl, by omega, hj, hd, fun x hx hxb hdx => ?_⟩
    by_cases e : x = j
    · subst e; exact Nat.le_refl _
    · have := h5 x (by omega) hxb hdx; omega
theorem Best.keep {code : List Ins} {b j p : Nat} (h : Best code b j (p : Int)) (hle : domCount code j ≤ domCount code p) : Best code b (j + 1) (p : Int) := by
  rcases h with ⟨h1, h2⟩ | ⟨q, h1, h2, h3, h4, h5⟩
  · omega
  · have e : p = q := by omega
    subst e
    refine .inr ⟨p, rfl, by omega, h3, h4, fun x hx hxb hdx => ?_⟩
    by_cases e : x = j
    · subst e; exact hle
    · exact h5 x (by omega) hxb hdx
theorem Best.range {code : List Ins} {b j : Nat} {y : Int} (h : Best code b j y) : y = -1 ∨ ∃ p : Nat, y = (p : Int) ∧ p < j := by
  rcases h with ⟨h1, _⟩ | ⟨p, h1, h2, _⟩
  · exact .inl h1
  · exact .inr ⟨p, h1, h2⟩
theorem Best.tree {code : List Ins} {l : List Int} (hh : hasB code = true) (hl : l.length = code.length) (h : ∀ b, b < code.length → Best code b code.length (l.getD b 0)) : IsTree code l := by
  have h0 : 0 < code.length := by simp [hasB] at hh; exact hh.1
  refine ⟨hl, fun v hv hn => ?_, fun v hv hv0 hr => ?_⟩
  · rcases h v hv with ⟨h1, _⟩ | ⟨p, h1, h2, h3, h4, _⟩
    · exact h1
    · rcases hn with rfl | hn
      · exact absurd h4.of_zero h3
      · exact absurd h4.2.1 hn
  · rcases h v hv with ⟨_, h2⟩ | ⟨p, h1, h2, h3, h4, h5⟩
    · exact absurd (Dom.zero hr) (h2 0 h0 (fun e => hv0 e.symm))
    · refine ⟨p, h1, h3, h4, fun a ha hav => ?_⟩
      rcases Dom.total ha h4 with e | e
      · exact e
      · by_cases hap : p = a
        · subst hap; exact e
        · have hlt := domCount_lt h0 e hap
          have := h5 a (ha.1.lt h0) hav ha
          omega

abbrev rowV (g n : Nat) : Value := .slice (some ⟨g, 0, none⟩) n n

/-- The two lists and the rows, in memory from B on; all rows below G. -/
structure RT (w1 wr : World) (B G n : Nat) (lo lm : List Int) (rv : Value) (vs : List Value) (bit : Nat → Nat → Bool) : Prop where
  below : Below B w1 wr
  out : OwnInts wr B (rowV B n) lo
  many : OwnInts wr (B + 1) (rowV (B + 1) n) lm
  rows : wr.ownsRow (B + 2) 37 1 rv vs.length vs
  each : ∀ i, i < vs.length → ∃ g, vs.getD i (.bool false) = rowV g n ∧ B + 2 ≤ g ∧ g < G ∧ rv.ownBlock ≠ some g ∧ ∀ b, b < n → wr.cell? ⟨g, b, none⟩ = some (.bool (bit i b))
  hi : ∀ k, rv.ownBlock = some k → k < G
  low : B + 2 ≤ G
  size : G ≤ wr.heap.size
theorem RT.later {w1 wr w' : World} {B G n : Nat} {lo lm : List Int} {rv : Value} {vs : List Value} {rows : Nat → Nat → Bool} (h : RT w1 wr B G n lo lm rv vs rows) (hb : Below wr.heap.size wr w') : RT w1 w' B G n lo lm rv vs rows :=
  have hs := h.size
  have hl := h.low
  ⟨h.below.trans (hb.mono (by omega)), ownsRow_below h.out hb (Nat.le_refl _), ownsRow_below h.many hb (Nat.le_refl _), ownsRow_below h.rows hb (Nat.le_refl _),
    fun i hi => by obtain ⟨g, h1, h2, h3, h4, h5⟩ := h.each i hi; exact ⟨g, h1, h2, h3, h4, fun b hb' => (hb.cell (p := ⟨g, b, none⟩) (by show g < _; omega)).trans (h5 b hb')⟩,
    h.hi, h.low, Nat.le_trans hs hb.size⟩
theorem RT.top {w1 wr : World} {B G n : Nat} {lo lm : List Int} {rv : Value} {vs : List Value} {rows : Nat → Nat → Bool} (h : RT w1 wr B G n lo lm rv vs rows) : RT w1 wr B wr.heap.size n lo lm rv vs rows :=
  have hs := h.size
  have hl := h.low
  ⟨h.below, h.out, h.many, h.rows, fun i hi => by obtain ⟨g, h1, h2, h3, h4, h5⟩ := h.each i hi; exact ⟨g, h1, h2, by omega, h4, h5⟩, fun k hk => by have := h.hi k hk; omega, by omega, Nat.le_refl _⟩
theorem RT.cells {w1 wr : World} {B G n : Nat} {lo lm : List Int} {rv : Value} {vs : List Value} {rows : Nat → Nat → Bool} (h : RT w1 wr B G n lo lm rv vs rows) {p : Addr} {u : Value} (hp : p.block ≤ B + 1 ∨ G ≤ p.block) {i : Nat} (hi : i < vs.length) :
    ∃ g, vs.getD i (.bool false) = rowV g n ∧ B + 2 ≤ g ∧ g < G ∧ rv.ownBlock ≠ some g ∧ ∀ b, b < n → (wr.setCell p u).cell? ⟨g, b, none⟩ = some (.bool (rows i b)) := by
  obtain ⟨g, h1, h2, h3, h4, h5⟩ := h.each i hi
  refine ⟨g, h1, h2, h3, h4, fun b hb => (World.cell?_setCell_other _ _ _ _ (fun e => ?_)).trans (h5 b hb)⟩
  rw [e] at hp
  simp at hp
  omega
theorem RT.setOut {w1 wr : World} {B G n : Nat} {lo lm : List Int} {rv : Value} {vs : List Value} {rows : Nat → Nat → Bool} (h : RT w1 wr B G n lo lm rv vs rows) (i : Nat) (y : Int) : RT w1 (wr.setCell ⟨B, i, none⟩ (.int .i64 y)) B G n (lo.set i y) lm rv vs rows :=
  ⟨h.below.setCell (Nat.le_refl _) _, OwnInts.store h.out i y, ownsRow_setCell_below h.many (by show B < B + 1; omega) _, ownsRow_setCell_below h.rows (by show B < B + 2; omega) _,
    fun i hi => h.cells (p := ⟨B, _, none⟩) (.inl (by show B ≤ B + 1; omega)) hi, h.hi, h.low, by rw [size_set]; exact h.size⟩
theorem RT.setMany {w1 wr : World} {B G n : Nat} {lo lm : List Int} {rv : Value} {vs : List Value} {rows : Nat → Nat → Bool} (h : RT w1 wr B G n lo lm rv vs rows) (i : Nat) (y : Int) : RT w1 (wr.setCell ⟨B + 1, i, none⟩ (.int .i64 y)) B G n lo (lm.set i y) rv vs rows :=
  ⟨h.below.setCell (by show B ≤ B + 1; omega) _, ownsRow_setCell_other h.out (by simp [Value.ownBlock]) _, OwnInts.store h.many i y, ownsRow_setCell_below h.rows (by show B + 1 < B + 2; omega) _,
    fun i hi => h.cells (p := ⟨B + 1, _, none⟩) (.inl (Nat.le_refl _)) hi, h.hi, h.low, by rw [size_set]; exact h.size⟩
theorem RT.setRow {w1 wr : World} {B G n : Nat} {lo lm : List Int} {rv : Value} {vs : List Value} {rows : Nat → Nat → Bool} (h : RT w1 wr B G n lo lm rv vs rows) {g : Nat} (hg : G ≤ g) (i : Nat) (u : Value) : RT w1 (wr.setCell ⟨g, i, none⟩ u) B G n lo lm rv vs rows :=
  have hl := h.low
  ⟨h.below.setCell (by show B ≤ g; omega) _, ownsRow_setCell_other h.out (by simp [Value.ownBlock]; omega) _, ownsRow_setCell_other h.many (by simp [Value.ownBlock]; omega) _, ownsRow_setCell_other h.rows (fun e => by have := h.hi _ e; simp at this; omega) _,
    fun i hi => h.cells (p := ⟨g, _, none⟩) (.inr hg) hi, h.hi, h.low, by rw [size_set]; exact h.size⟩
theorem Try.infoBoolRow : (Try.prog.info? 37).map (fun i => (i.zero, i.size, i.bytes)) = some (some (.slice none 0 0), 1, 24) := by kernel_rfl
theorem cell_of_grown {W w' : World} {row : Option Nat} {g b : Nat} (hgr : W.grownBy w' row) (hlt : g < W.heap.size) (hne : row ≠ some g) : w'.cell? ⟨g, b, none⟩ = W.cell? ⟨g, b, none⟩ := by
  have e : w'.heap[g]? = W.heap[g]? := hgr.block g hlt (fun e => hne e.symm)
  unfold World.cell?
  rw [e]
/-- 'rows = append(rows, row)'. -/
theorem RT.push {w1 wr w' : World} {B G n k : Nat} {lo lm : List Int} {rv v' : Value} {vs : List Value} {rows : Nat → Nat → Bool} {o : Obj} (h : RT w1 wr B G n lo lm rv vs rows) {g : Nat} (hg : G ≤ g) {rl : List Bool} (hrow : OwnBools wr G (rowV g n) rl) (hk : vs.length = k)
    (hrl : ∀ b, b < n → rl.getD b false = rows k b) (hlen : rl.length = n)
    (ho : w'.ownsRow (B + 2) 37 1 v' (vs.length + 1) (vs ++ [rowV g n])) (hgr : (wr.alloc o).grownBy w' rv.ownBlock) (hfr : Fresh (wr.alloc o) rv v') (hbb : Below B w1 w') :
    RT w1 w' B w'.heap.size n lo lm v' (vs ++ [rowV g n]) rows := by
  have hs := h.size
  have hl := h.low
  have hsz := hgr.size
  rw [World.size_alloc] at hsz
  have hlo : ∀ q, rv.ownBlock = some q → B + 2 ≤ q := fun q hq => (World.ownsRow.lt h.rows q hq).1
  have hgs : g < wr.heap.size := (World.ownsRow.lt hrow g rfl).2
  have hcell : ∀ x b, x < wr.heap.size → rv.ownBlock ≠ some x → w'.cell? ⟨x, b, none⟩ = wr.cell? ⟨x, b, none⟩ := fun x b hx hne =>
    (cell_of_grown hgr (by rw [World.size_alloc]; omega) hne).trans (((Below.refl wr.heap.size wr).alloc (Nat.le_refl _) o).cell (p := ⟨x, b, none⟩) hx)
  refine ⟨hbb, (World.ownsRow.alloc h.out _).kept hgr (.inr (fun e => by have := hlo B e.symm; omega)), (World.ownsRow.alloc h.many _).kept hgr (.inr (fun e => by have := hlo (B + 1) e.symm; omega)), by simpa using ho, fun i hi => ?_, fun q hq => (World.ownsRow.lt ho q hq).2, by omega, Nat.le_refl _⟩
  rw [List.length_append, List.length_singleton] at hi
  by_cases hik : i < vs.length
  · obtain ⟨x, h1, h2, h3, h4, h5⟩ := h.each i hik
    refine ⟨x, ?_, h2, by omega, hfr x (by rw [World.size_alloc]; omega) h4, fun b hb => (hcell x b (by omega) h4).trans (h5 b hb)⟩
    rw [← h1]; simp only [List.getD_eq_getElem?_getD]; rw [List.getElem?_append_left hik]
  · have e : i = vs.length := by omega
    have hne : rv.ownBlock ≠ some g := fun e => by have := h.hi g e; omega
    refine ⟨g, ?_, by omega, by omega, hfr g (by rw [World.size_alloc]; omega) hne, fun b hb => ?_⟩
    · rw [e]; simp [List.getD_eq_getElem?_getD]
    · rw [hcell g b hgs hne, OwnBools.cell hrow (by omega), hrl b hb, e, hk]
end Go.Proofs.Ytggkeodoenhmoaa
