/- Sets of ints as maps of the call's own; the library's sort of a list of ints; a queue: a list that is cut in front and appended to. -/
import Derived.Test.YtapjdndcnenadaaDoorSameFn
import Derived.Test.YtapjdndcnenadaaDoorShelf
import Derived.Sort.OwnSortedInts
import Derived.Maps.OwnSet
import Derived.Maps.RangeWalk
import Derived.Deep.Upon
import Derived.WalkArith
namespace Go.Proofs.YtapjdndcnenadaaDoor
open Go.RowKit Go.Maps

/-! ### the sort -/
def sortL (l : List Int) : List Int := l.mergeSort fun x y => decide (x ≤ y)
theorem sortL_length (l : List Int) : (sortL l).length = l.length := by simp [sortL]
theorem sortL_mem (l : List Int) (x : Int) : x ∈ sortL l ↔ x ∈ l := by unfold sortL; exact (List.mergeSort_perm l _).mem_iff
theorem sortL_sorted (l : List Int) (h : l.Nodup) : (sortL l).Pairwise (· < ·) := by
  have h1 : (sortL l).Pairwise (fun x y => decide (x ≤ y) = true) := List.pairwise_mergeSort (fun a b c h1 h2 => by simp at *; omega) (fun a b => by simp; omega) l
  have h2 : (sortL l).Nodup := (List.mergeSort_perm l _).nodup_iff.2 h
  have h3 := List.Pairwise.and h1 h2
  exact h3.imp (fun {a b} h => by have := of_decide_eq_true h.1; have := h.2; omega)
theorem sorted_ext : ∀ (a b : List Int), a.Pairwise (· < ·) → b.Pairwise (· < ·) → (∀ x, x ∈ a ↔ x ∈ b) → a = b
  | [], [], _, _, _ => rfl
  | [], y :: b, _, _, h => absurd ((h y).2 (by simp)) (by simp)
  | x :: a, [], _, _, h => absurd ((h x).1 (by simp)) (by simp)
  | x :: a, y :: b, ha, hb, h => by
    obtain ⟨ha1, ha2⟩ := List.pairwise_cons.1 ha
    obtain ⟨hb1, hb2⟩ := List.pairwise_cons.1 hb
    have e : x = y := by
      rcases List.mem_cons.1 ((h x).1 (by simp)) with e | hx
      · exact e
      · rcases List.mem_cons.1 ((h y).2 (by simp)) with e | hy
        · exact e.symm
        · have := hb1 x hx; have := ha1 y hy; omega
    subst e
    rw [sorted_ext a b ha2 hb2 (fun z => ?_)]
    have hz := h z
    constructor
    · intro hm
      rcases List.mem_cons.1 (hz.1 (by simp [hm])) with e | h2
      · have := ha1 z hm; omega
      · exact h2
    · intro hm
      rcases List.mem_cons.1 (hz.2 (by simp [hm])) with e | h2
      · have := hb1 z hm; omega
      · exact h2

theorem sortInts_any (v : Value) (l : List Int) (B : Nat) (w : World) (h : OwnInts w B v l) (hl : l.length ≤ 1000000000000) :
    Calls Tryd.prog 37 #[v] w fun e w' => e = .returned (.tuple #[]) ∧ OwnInts w' B v (sortL l) ∧ w.grownBy w' v.ownBlock := by
  rcases h.2 with ⟨rfl, h0⟩ | ⟨g, cap, cur, rfl, hg, hh, hn, hm, hs, ht⟩
  · have hl0 : l = [] := List.eq_nil_of_length_eq_zero h0
    subst hl0
    refine (Tryd.sort_Ints_none none 0 w).mono ?_
    rintro e w' ⟨rfl, rfl⟩
    exact ⟨rfl, by rw [show sortL [] = [] from by simp [sortL]]; exact h, World.grownBy.refl _ _⟩
  · refine (Tryd.sort_Ints g 0 cap l w (holds_of_blockI hh (by unfold intVs at ht; simpa using ht)) (Array.getElem?_eq_some_iff.1 hh).1 (by omega)).mono ?_
    rintro e w' ⟨rfl, n, os, rfl⟩
    refine ⟨rfl, ?_, ?_⟩
    · have := ownsRow_sortedI (n := n) (os := os) (e := 3) (ss := l) (ts := sortL l) (sortL_length l) hg hh hn hm hs
      unfold OwnInts intVs
      rw [sortL_length]
      exact this
    · exact grownBy_sortedI _

/-! ### sets -/
theorem Tryd.intKey : Keyed Tryd.prog 3 := int_keyed Tryd.underlying3
/-- Block b of w is a map of ints to nothing: the set of S's members. -/
def SetAt (w : World) (b : Nat) (S : List Int) : Prop :=
  ∃ D : DataW Unit, w.ownsMap Tryd.prog 3 unitElem b S.length D ∧ S.Nodup ∧ Maps.size D = S.length ∧ ∀ kl, Maps.has D kl = true ↔ ∃ x ∈ S, kl = .int .i64 x
theorem SetAt.made (w : World) : SetAt (w.alloc (.map #[] 0)) w.heap.size [] :=
  ⟨.map [], World.ownsMap_made w _ _ _, List.nodup_nil, rfl, fun kl => by simp [Maps.has]⟩
theorem SetAt.lt {w : World} {b : Nat} {S : List Int} (h : SetAt w b S) : b < w.heap.size := by obtain ⟨D, h, _⟩ := h; exact h.lt
theorem SetAt.kept {w w' : World} {b : Nat} {S : List Int} {row : Option Nat} (h : SetAt w b S) (hg : w.grownBy w' row) (hne : some b ≠ row) : SetAt w' b S := by
  obtain ⟨D, h, r⟩ := h; exact ⟨D, h.kept hg hne, r⟩
theorem SetAt.alloc {w : World} {b : Nat} {S : List Int} (h : SetAt w b S) (o : Obj) : SetAt (w.alloc o) b S := h.kept (World.grownBy_alloc w o none) (by simp)
theorem SetAt.later {w w' : World} {b B : Nat} {S : List Int} (h : SetAt w b S) (hb : Below B w w') (hB : b < B) : SetAt w' b S := by
  obtain ⟨D, ⟨es, clock, hh, r2⟩, r⟩ := h
  exact ⟨D, ⟨es, clock, (hb.block b hB).trans hh, r2⟩, r⟩
theorem SetAt.at_block {w w' : World} {b : Nat} {S : List Int} (h : SetAt w b S) (hb : w'.heap[b]? = w.heap[b]?) : SetAt w' b S := by
  obtain ⟨D, ⟨es, clock, hh, r2⟩, r⟩ := h
  exact ⟨D, ⟨es, clock, hb.trans hh, r2⟩, r⟩
theorem SetAt.nodup {w : World} {b : Nat} {S : List Int} (h : SetAt w b S) : S.Nodup := by obtain ⟨D, _, h, _⟩ := h; exact h
theorem owns_tight {w : World} {P : Program} {k : TypeId} {R : Value → Option (DataW Unit × List MemPlace)} {b n : Nat} {D : DataW Unit} (h : w.ownsMap P k R b n D) : w.ownsMap P k R b (Maps.size D) D := by
  obtain ⟨es, clock, hb, F, hs, rfl⟩ := h
  exact ⟨es, clock, hb, F, by simp [Maps.size, length_sorted], rfl⟩
theorem isKeyInt (x : Int) : WideAt.IsKeyLit (.int .i64 x) := by simp [WideAt.IsKeyLit]
def insL (S : List Int) (x : Int) : List Int := if x ∈ S then S else x :: S
theorem insL_mem (S : List Int) (x y : Int) : y ∈ insL S x ↔ y = x ∨ y ∈ S := by
  unfold insL; split
  · rename_i h; constructor
    · intro h; exact .inr h
    · rintro (rfl | h2)
      · exact h
      · exact h2
  · simp
theorem insL_nodup {S : List Int} (h : S.Nodup) (x : Int) : (insL S x).Nodup := by
  unfold insL; split
  · exact h
  · rename_i hx; exact List.nodup_cons.2 ⟨hx, h⟩
theorem has_put_iff {D : DataW Unit} (hD : IsMap D) (x : Int) (d : DataW Unit) (kl : Lit) : Maps.has (D.put (.int .i64 x) d) kl = true ↔ kl = .int .i64 x ∨ Maps.has D kl = true := by
  by_cases e : kl = .int .i64 x
  · subst e; simp [has_put_same hD (isKeyInt x)]
  · rw [has_put_other e]; simp [e]
theorem has_del_iff {D : DataW Unit} (x : Int) (kl : Lit) : Maps.has (D.del (.int .i64 x)) kl = true ↔ kl ≠ .int .i64 x ∧ Maps.has D kl = true := by
  by_cases e : kl = .int .i64 x
  · subst e; simp [has_del_same]
  · rw [has_del_other e]; simp [e]

section
variable {w : World} {ops : Array Oper} {rest : List Oper} {o : Oper} {a : Act} {Q : Exit → Act → World → Prop}

theorem set_look (hg : o.guard = none) (m x : Operand) (hop : o.op = Op.lookup 63 m x true) (b : Nat) (S : List Int) (hm : a.eval m = .map (some b)) (hown : SetAt w b S) (y : Int) (hx : a.eval x = .int .i64 y)
    (hw : -9223372036854775808 ≤ y ∧ y ≤ 9223372036854775807) (r : Bool) (hr : decide (y ∈ S) = r) (hK : wpList Tryd.prog ops Q rest (a.put o.dst (.tuple #[.agg #[], .bool r])) w) : wpList Tryd.prog ops Q (o :: rest) a w := by
  obtain ⟨D, h, _, _, hh⟩ := hown
  refine wpList_lookup_own_unit w hg m x _ hop 3 64 Tryd.intKey Tryd.underlying63 (by kernel_rfl) b _ D hm h _ _ hx (keyOf_int_mk Tryd.underlying3 (WalkArith.wf_i64 hw)) ?_
  have e : Maps.has D (.int .i64 y) = decide (y ∈ S) := by
    rw [Bool.eq_iff_iff, hh]; simp
  rw [e, hr]; exact hK

theorem set_put (hg : o.guard = none) (m x v : Operand) (hop : o.op = Op.mapUpdate 63 m x v) (b : Nat) (S : List Int) (hm : a.eval m = .map (some b)) (hown : SetAt w b S) (y : Int) (hx : a.eval x = .int .i64 y) (hv : a.eval v = .agg #[])
    (hw : -9223372036854775808 ≤ y ∧ y ≤ 9223372036854775807) (hl : S.length ≤ 1000000000000) (hK : ∀ w', SetAt w' b (insL S y) → w.grownBy w' (some b) → wpList Tryd.prog ops Q rest (a.put o.dst undef) w') : wpList Tryd.prog ops Q (o :: rest) a w := by
  obtain ⟨D, h, hn, hs, hh⟩ := hown
  refine wpList_mapUpdate_own w hg m x v _ hop 3 64 Tryd.intKey Tryd.underlying63 _ b _ D hm h (by unfold maxLen; omega) _ _ _ hx hv (keyOf_int_mk Tryd.underlying3 (WalkArith.wf_i64 hw)) (.agg []) [] unitElem_mk ?_
  intro w' h1 h2
  refine hK w' ⟨D.put (.int .i64 y) (.agg []), ?_, insL_nodup hn y, ?_, ?_⟩ h2
  · have e : Maps.size (D.put (.int .i64 y) (.agg [])) = (insL S y).length := by
      rw [size_put (h.tidy Tryd.intKey), hs]
      unfold insL
      by_cases hy : y ∈ S
      · rw [if_pos ((hh _).2 ⟨y, hy, rfl⟩), if_pos hy]
      · rw [if_neg (fun h => hy (by obtain ⟨z, hz, e⟩ := (hh _).1 h; cases e; exact hz)), if_neg hy]; rfl
    rw [← e]; exact owns_tight h1
  · rw [size_put (h.tidy Tryd.intKey), hs]
    unfold insL
    by_cases hy : y ∈ S
    · rw [if_pos ((hh _).2 ⟨y, hy, rfl⟩), if_pos hy]
    · rw [if_neg (fun h => hy (by obtain ⟨z, hz, e⟩ := (hh _).1 h; cases e; exact hz)), if_neg hy]; rfl
  · intro kl
    rw [has_put_iff h.isMap, hh]
    constructor
    · rintro (rfl | ⟨x, hx, rfl⟩)
      · exact ⟨y, (insL_mem _ _ _).2 (.inl rfl), rfl⟩
      · exact ⟨x, (insL_mem _ _ _).2 (.inr hx), rfl⟩
    · rintro ⟨x, hx, rfl⟩
      rcases (insL_mem _ _ _).1 hx with rfl | hx
      · exact .inl rfl
      · exact .inr ⟨x, hx, rfl⟩

theorem set_len (hg : o.guard = none) (m : Operand) (hop : o.op = Op.call { callee := Callee.builtin Builtin.len, args := #[m], argTypes := #[63] }) (b : Nat) (S : List Int) (hm : a.eval m = .map (some b)) (hown : SetAt w b S) (n : Nat) (hn0 : S.length = n)
    (hK : wpList Tryd.prog ops Q rest (a.put o.dst (.int .i64 (n : Int))) w) : wpList Tryd.prog ops Q (o :: rest) a w := by
  obtain ⟨D, h, hn, hs, hh⟩ := hown
  refine wpList_len_own w hg m _ hop 3 64 Tryd.underlying63 _ b _ D hm h ?_
  rw [hs, hn0]; exact hK

theorem set_del (hg : o.guard = none) (m x : Operand) (hop : o.op = Op.call { callee := Callee.builtin Builtin.delete, args := #[m, x], argTypes := #[63, 3] }) (b : Nat) (S : List Int) (hm : a.eval m = .map (some b)) (hown : SetAt w b S) (y : Int) (hx : a.eval x = .int .i64 y)
    (hw : -9223372036854775808 ≤ y ∧ y ≤ 9223372036854775807) (hK : ∀ w', SetAt w' b (S.erase y) → w.grownBy w' (some b) → wpList Tryd.prog ops Q rest (a.put o.dst (.tuple #[])) w') : wpList Tryd.prog ops Q (o :: rest) a w := by
  obtain ⟨D, h, hn, hs, hh⟩ := hown
  refine wpList_delete_own w hg m x _ _ hop 64 Tryd.intKey Tryd.underlying63 _ b _ D hm h _ _ hx (keyOf_int_mk Tryd.underlying3 (WalkArith.wf_i64 hw)) ?_
  intro w' h1 h2
  have hsz : Maps.size (D.del (.int .i64 y)) = (S.erase y).length := by
    have e := size_del (k := .int .i64 y) (h.tidy Tryd.intKey)
    by_cases hy : y ∈ S
    · rw [if_pos ((hh _).2 ⟨y, hy, rfl⟩), hs] at e
      rw [List.length_erase_of_mem hy]; omega
    · rw [if_neg (fun h => hy (by obtain ⟨z, hz, e⟩ := (hh _).1 h; cases e; exact hz)), hs] at e
      rw [List.erase_of_not_mem hy]; omega
  refine hK w' ⟨D.del (.int .i64 y), by rw [← hsz]; exact owns_tight h1, hn.erase y, hsz, ?_⟩ h2.grown
  intro kl
  rw [has_del_iff, hh]
  constructor
  · rintro ⟨hne, x, hx, rfl⟩
    exact ⟨x, (hn.mem_erase_iff).2 ⟨fun e => hne (by rw [e]), hx⟩, rfl⟩
  · rintro ⟨x, hx, rfl⟩
    obtain ⟨h1, h2⟩ := (hn.mem_erase_iff).1 hx
    exact ⟨fun e => by cases e; exact h1 rfl, x, h2, rfl⟩
end

/-! ### worlds that are kept but for one block -/
structure Keep (B b : Nat) (w w' : World) : Prop where
  os : w'.os = w.os
  tape : w'.tape = w.tape
  output : w'.output = w.output
  size : w.heap.size ≤ w'.heap.size
  block : ∀ i, i < B → i ≠ b → w'.heap[i]? = w.heap[i]?
theorem Keep.refl (B b : Nat) (w : World) : Keep B b w w := ⟨rfl, rfl, rfl, Nat.le_refl _, fun _ _ _ => rfl⟩
theorem Keep.trans {B b : Nat} {u v w : World} (h : Keep B b u v) (k : Keep B b v w) : Keep B b u w :=
  ⟨k.os.trans h.os, k.tape.trans h.tape, k.output.trans h.output, Nat.le_trans h.size k.size, fun i hi hb => (k.block i hi hb).trans (h.block i hi hb)⟩
theorem Keep.of_below {B b : Nat} {w w' : World} (h : Below B w w') : Keep B b w w' := ⟨h.os, h.tape, h.output, h.size, fun i hi _ => h.block i hi⟩
theorem Keep.grown {B b : Nat} {u w w' : World} {row : Option Nat} (h : Keep B b u w) (hg : w.grownBy w' row) (hB : B ≤ w.heap.size) (hr : ∀ k, row = some k → B ≤ k ∨ k = b) : Keep B b u w' :=
  h.trans ⟨hg.os, hg.tape, hg.output, hg.size, fun i hi hb => hg.block i (by omega) (fun e => by rcases hr i e.symm with h | h <;> omega)⟩
theorem Keep.alloc {B b : Nat} {u w : World} (h : Keep B b u w) (hB : B ≤ w.heap.size) (o : Obj) : Keep B b u (w.alloc o) := h.grown (World.grownBy_alloc w o none) hB (by simp)
theorem Keep.below {B b C : Nat} {w w' : World} (h : Keep B b w w') (hC : C ≤ B) (hb : C ≤ b) : Below C w w' := ⟨h.os, h.tape, h.output, h.size, fun i hi => h.block i (by omega) (by omega)⟩
theorem Keep.cell {B b : Nat} {w w' : World} (h : Keep B b w w') {p : Addr} (hp : p.block < B) (hb : p.block ≠ b) : w'.cell? p = w.cell? p := World.cell?_of_block (w := w) (h.block p.block hp hb)
theorem Keep.row {B b C : Nat} {w w' : World} (h : Keep C b w w') {e : TypeId} {size : Nat} {v : Value} {n : Nat} {xs : List Value} (ho : w.ownsRow B e size v n xs) (hC : w.heap.size ≤ C) (hb : b < B) : w'.ownsRow B e size v n xs := by
  obtain ⟨h1, h2⟩ := ho
  refine ⟨h1, ?_⟩
  rcases h2 with h2 | ⟨g, cap, cur, hv, hg, hh, r⟩
  · exact .inl h2
  · exact .inr ⟨g, cap, cur, hv, hg, by rw [h.block g (Nat.lt_of_lt_of_le (Array.getElem?_eq_some_iff.1 hh).1 hC) (by omega)]; exact hh, r⟩

/-! ### a queue -/
/-- v is a list of ints in a block of the call's own, from some place in that block on. -/
def OwnQ (w : World) (B : Nat) (v : Value) (l : List Int) : Prop :=
  (v = .slice none 0 0 ∧ l = []) ∨ ∃ g off cap, v = .slice (some ⟨g, off, none⟩) l.length cap ∧ B ≤ g ∧ g < w.heap.size ∧ l.length ≤ cap ∧ cap ≤ maxLen ∧
    (∀ j, j < cap → (w.cell? ⟨g, off + j, none⟩).isSome = true) ∧ (∀ j, w.frozen? ⟨g, off + j, none⟩ = false) ∧ ∀ j u, (intVs l)[j]? = some u → w.cell? ⟨g, off + j, none⟩ = some u

theorem OwnQ.of_owns {w : World} {B : Nat} {v : Value} {l : List Int} (h : OwnInts w B v l) : OwnQ w B v l := by
  rcases h.2 with ⟨rfl, h0⟩ | ⟨g, cap, cur, rfl, hg, hh, hn, hm, hs, ht⟩
  · exact .inl ⟨rfl, List.eq_nil_of_length_eq_zero h0⟩
  · refine .inr ⟨g, 0, cap, rfl, hg, (Array.getElem?_eq_some_iff.1 hh).1, hn, hm, fun j hj => ?_, fun j => ?_, fun j u hu => ?_⟩
    · rw [cell_of_row w g _ cur _ (0, 0) hh, Array.getElem?_eq_getElem (by omega)]; rfl
    · simp [World.frozen?, hh]
    · rw [cell_of_row w g _ cur _ (0, 0) hh, ← Array.getElem?_toList, Nat.zero_add]
      have hjl : j < l.length := by have := (List.getElem?_eq_some_iff.1 hu).1; simpa [intVs] using this
      have h2 := congrArg (fun l => l[j]?) ht
      simp only [List.getElem?_take, Nat.mul_one] at h2
      rw [if_pos hjl] at h2
      rw [h2]; exact hu

theorem OwnQ.later {w w' : World} {B C : Nat} {v : Value} {l : List Int} (h : OwnQ w B v l) (hb : Below C w w') (hC : w.heap.size ≤ C) : OwnQ w' B v l := by
  rcases h with h | ⟨g, off, cap, rfl, hg, hlt, h1, h2, h3, h4, h5⟩
  · exact .inl h
  · exact .inr ⟨g, off, cap, rfl, hg, Nat.lt_of_lt_of_le hlt hb.size, h1, h2, fun j hj => by rw [hb.cell (p := ⟨g, off + j, none⟩) (Nat.lt_of_lt_of_le hlt hC)]; exact h3 j hj,
      fun j => (hb.frozen (p := ⟨g, off + j, none⟩) (Nat.lt_of_lt_of_le hlt hC)).trans (h4 j), fun j u hu => (hb.cell (p := ⟨g, off + j, none⟩) (Nat.lt_of_lt_of_le hlt hC)).trans (h5 j u hu)⟩
theorem OwnQ.kept {w w' : World} {B : Nat} {v : Value} {l : List Int} {b : Nat} (h : OwnQ w B v l) (hg : w.grownBy w' (some b)) (hB : b < B) : OwnQ w' B v l := by
  rcases h with h | ⟨g, off, cap, rfl, hg1, hlt, h1, h2, h3, h4, h5⟩
  · exact .inl h
  · have e : w'.heap[g]? = w.heap[g]? := hg.block g hlt (by intro e; cases e; omega)
    have c : ∀ j, w'.cell? ⟨g, j, none⟩ = w.cell? ⟨g, j, none⟩ := fun j => World.cell?_of_block (w := w) e
    have f : ∀ j, w'.frozen? ⟨g, j, none⟩ = w.frozen? ⟨g, j, none⟩ := fun j => World.frozen?_of_block (w := w) e
    exact .inr ⟨g, off, cap, rfl, hg1, Nat.lt_of_lt_of_le hlt hg.size, h1, h2, fun j hj => by rw [c]; exact h3 j hj, fun j => (f _).trans (h4 j), fun j u hu => (c _).trans (h5 j u hu)⟩

theorem OwnQ.head {w : World} {B : Nat} {a : Option Addr} {n cap : Nat} {x : Int} {l : List Int} (h : OwnQ w B (.slice a n cap) (x :: l)) :
    n = l.length + 1 ∧ ∃ g off, a = some ⟨g, off, none⟩ ∧ B ≤ g ∧ g < w.heap.size ∧ l.length + 1 ≤ cap ∧ cap ≤ maxLen ∧ w.cell? ⟨g, off, none⟩ = some (.int .i64 x) := by
  rcases h with ⟨_, h⟩ | ⟨g, off, cap', hv, hg, hlt, h1, h2, h3, h4, h5⟩
  · cases h
  · cases hv
    exact ⟨rfl, g, off, rfl, hg, hlt, h1, h2, h5 0 _ rfl⟩
theorem OwnQ.tail {w : World} {B g off n cap : Nat} {x : Int} {l : List Int} (h : OwnQ w B (.slice (some ⟨g, off, none⟩) n cap) (x :: l)) : OwnQ w B (.slice (some ⟨g, off + 1, none⟩) (n - 1) (cap - 1)) l := by
  rcases h with ⟨h, _⟩ | ⟨g', off', cap', hv, hg, hlt, h1, h2, h3, h4, h5⟩
  · cases h
  · cases hv
    simp only [List.length_cons] at h1
    refine .inr ⟨g, off + 1, cap - 1, by simp, hg, hlt, by omega, by omega, fun j hj => ?_, fun j => ?_, fun j u hu => ?_⟩
    · rw [Nat.add_assoc]; exact h3 _ (by omega)
    · rw [Nat.add_assoc]; exact h4 _
    · rw [Nat.add_assoc, Nat.add_comm 1]; exact h5 (j + 1) u (by simpa [intVs] using hu)

theorem below_setCells {C b : Nat} {w0 : World} : ∀ (vs : List Value) (o : Nat) (w : World), Below C w0 w → C ≤ b → Below C w0 (w.setCells b o vs)
  | [], _, _, h, _ => h
  | v :: r, o, w, h, hb => by
    rw [World.setCells]
    exact below_setCells r (o + 1) _ (h.setCell hb v) hb

theorem append_q {ops : Array Oper} {rest : List Oper} {o : Oper} {a : Act} {Q : Exit → Act → World → Prop} {w : World} (hgd : o.guard = none) (s x : Operand)
    (ho : o.op = .call { callee := .builtin .append, args := #[s, x], argTypes := #[38, 38] })
    (B : Nat) (v : Value) (l : List Int) (hs : a.eval s = v) (hown : OwnQ w B v l) (sv : Value) (l2 : List Int) (hx : a.eval x = sv) (hsrc : IntsIn w sv l2)
    (hl : l.length + l2.length ≤ 1000000000000) (hB : B ≤ w.heap.size)
    (h : ∀ v' w', OwnQ w' B v' (l ++ l2) → (∀ C w0, Below C w0 w → C ≤ B → Below C w0 w') → wpList Tryd.prog ops Q rest (a.put o.dst v') w') : wpList Tryd.prog ops Q (o :: rest) a w := by
  rcases hown with ⟨rfl, rfl⟩ | ⟨g, off, cap, rfl, hg, hlt, h1, h2, h3, h4, h5⟩
  · refine append_ints hgd s x ho B _ [] hs (World.ownsRow_nil _ _ _ _) sv l2 hx hsrc hl hB ?_
    intro v' w' ho hgr hfr hbb
    exact h v' w' (OwnQ.of_owns ho) hbb
  · suffices hr : ∃ v' w', (Builtin.append_ #[38, 38] o.type #[.slice (some ⟨g, off, none⟩) l.length cap, sv]).run Tryd.prog w = .ok v' w' ∧ OwnQ w' B v' (l ++ l2) ∧ ∀ C w0, Below C w0 w → C ≤ B → Below C w0 w' by
      obtain ⟨v', w', hr, r1, r2⟩ := hr
      refine wpList_plain hgd fun K hK => ?_
      unfold Oper.wp execOp
      simp only [ho, resolve, invoke, builtin, Sem.run_bind, Sem.run_pure, Result.andThen_ok, List.map_toArray, List.map_cons, List.map_nil, hs, hx, hr]
      exact hK _ _ (h v' w' r1 r2)
    obtain ⟨i, hi, hz, hsi, hby⟩ := info_parts Tryd.infoInt
    obtain ⟨hn2, a2, cap2, rfl, hc2, hm2, hcap2, hcells⟩ := hsrc
    have hone : ∀ u ∈ intVs l2, u.oneCell' = true := by intro u hu; simp [intVs] at hu; obtain ⟨_, _, rfl⟩ := hu; rfl
    cases a2 with
    | none =>
      obtain rfl := hcap2 rfl
      obtain rfl : l2 = [] := List.eq_nil_of_length_eq_zero (by omega)
      refine ⟨_, _, Go.run_append_nothing (P := Tryd.prog) w 38 38 o.type 3 i Tryd.underlying38 hi _ _ _ h1 _ (Src.ofNil (P := Tryd.prog) w (size := i.size) Tryd.underlying38 0), ?_, fun C w0 hb _ => hb⟩
      rw [List.append_nil]
      exact .inr ⟨g, off, cap, rfl, hg, hlt, h1, h2, h3, h4, h5⟩
    | some a2 =>
      have hc : ∀ j u, (intVs l2)[j]? = some u → w.cell? (a2.add j) = some u := by
        intro j u hu
        have hjl : j < l2.length := by have := (List.getElem?_eq_some_iff.1 hu).1; simpa [intVs] using this
        obtain ⟨b, o2, ha, _, hcc⟩ := hcells (by omega)
        cases ha
        rw [Addr.add_lit]; exact hcc j u hu
      have hll : (intVs l).length = l.length := by simp [intVs]
      by_cases hroom : l.length + l2.length ≤ cap
      · refine ⟨_, _, run_append_room_cells (P := Tryd.prog) w 38 o.type 3 i Tryd.underlying38 hi g off l.length cap a2 l2.length cap2 (intVs l2) (by rw [hsi, hn2]) hc hone hroom ?_ ?_, ?_, fun C w0 hb hC => below_setCells _ _ _ hb (by omega)⟩
        · intro j hj
          rw [hsi, Nat.mul_one, Nat.add_assoc]
          exact h3 _ (by rw [hn2] at hj; omega)
        · intro j hj
          rw [hsi, Nat.mul_one, Nat.add_assoc]
          exact h4 _
        · rw [hsi, Nat.mul_one]
          have hin : ∀ j, j < (intVs l2).length → (w.cell? ⟨g, off + l.length + j, none⟩).isSome = true := fun j hj => by
            rw [Nat.add_assoc]; exact h3 _ (by rw [hn2] at hj; omega)
          refine .inr ⟨g, off, cap, by simp, hg, ?_, by simpa using hroom, h2, fun j hj => ?_, fun j => ?_, fun j u hu => ?_⟩
          · have := (below_setCells (C := 0) (b := g) (intVs l2) (off + l.length) w (Below.refl _ _) (Nat.zero_le _)).size
            omega
          · by_cases h6 : l.length ≤ j ∧ j < l.length + l2.length
            · have e : off + j = off + l.length + (j - l.length) := by omega
              rw [e, World.cell?_setCells_in g _ _ _ hin _ (by rw [hn2]; omega)]; rfl
            · rw [World.cell?_setCells_out g _ _ _ _ (fun _ _ => by simp only [hn2]; omega)]
              exact h3 j hj
          · rw [World.frozen?_setCells]; exact h4 j
          · rw [show intVs (l ++ l2) = intVs l ++ intVs l2 by simp [intVs]] at hu
            by_cases h6 : j < l.length
            · rw [List.getElem?_append_left (by rw [hll]; exact h6)] at hu
              rw [World.cell?_setCells_out g _ _ _ _ (fun _ _ => by left; simp only; omega)]
              exact h5 j u hu
            · rw [List.getElem?_append_right (by rw [hll]; omega), hll] at hu
              obtain ⟨hj2, e2⟩ := List.getElem?_eq_some_iff.1 hu
              have e : off + j = off + l.length + (j - l.length) := by omega
              rw [e, World.cell?_setCells_in g _ _ _ hin _ hj2, e2]
      · obtain ⟨v', w', hr, hown', hgr⟩ := run_append_arg_grows (P := Tryd.prog) w 38 o.type 3 i (.int .i64 0) 1 8 Tryd.underlying38 hi hz hsi hby rfl (by decide) ⟨g, off, none⟩ l.length cap (intVs l) (by rw [hll, Nat.mul_one]) (fun j u hu => by rw [Addr.add_lit]; exact h5 j u hu)
          a2 l2.length cap2 (intVs l2) hn2 hc (by omega) (by unfold maxLen; omega) (by omega)
        refine ⟨v', w', hr, OwnQ.of_owns ?_, fun C w0 hb hC => hb.grown hgr (by omega) (by intro k hk; cases hk)⟩
        unfold OwnInts
        rw [show intVs (l ++ l2) = intVs l ++ intVs l2 by simp [intVs], List.length_append]
        exact ownsRow_mono hown' hB
end Go.Proofs.YtapjdndcnenadaaDoor
