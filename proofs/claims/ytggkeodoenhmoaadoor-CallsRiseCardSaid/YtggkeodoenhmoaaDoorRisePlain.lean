/- The plain side of the statement CallsRise: a call on a ring, and the search that comes back. -/
import Derived.Test.YtggkeodoenhmoaaDoorLawOrder
namespace Go.Proofs.YtggkeodoenhmoaaDoor
open Go.RowKit

theorem callsTo_mem {code : List Ins} {can : List Bool} {n k : Nat} {p : Pr} (h : p ∈ callsTo code can n k) (hk : k ≤ code.length) : ∃ (c : Nat) (y : Ins), c < k ∧ p.1 = (c : Int) ∧ code[c]? = some y ∧ y.op = 19 ∧ y.n = p.2 := by
  induction k with
  | zero => simp [callsTo] at h
  | succ k ih =>
    rw [callsTo, List.mem_append] at h
    rcases h with h | h
    · obtain ⟨c, y, h1, h2⟩ := ih h (by omega)
      exact ⟨c, y, by omega, h2⟩
    · split at h
      · rename_i hc
        obtain ⟨_, hc⟩ := hc
        have hy : code[k]? = some (code[k]'(by omega)) := List.getElem?_eq_getElem _
        have hd : code.getD k default = code[k]'(by omega) := by simp [List.getD, hy]
        simp only [List.mem_singleton] at h
        subst h
        simp only [isCall, decide_eq_true_eq] at hc
        exact ⟨k, _, by omega, rfl, hy, by rw [← hd]; exact hc.1, by rw [← hd]⟩
      · simp at h
theorem calls_at {F : List FR} {j k : Nat} {p : Pr} (h : (callsFn F (j : Int))[k]? = some p) : ∃ (x : FR) (c : Nat) (y : Ins), F[j]? = some x ∧ p.1 = (c : Int) ∧ x.code[c]? = some y ∧ y.op = 19 ∧ y.n = p.2 := by
  cases hx : F[j]? with
  | none => simp [callsFn, hx] at h
  | some x =>
    rw [callsFn_at hx] at h
    have hm := List.mem_of_getElem? h
    unfold callsL at hm
    obtain ⟨c, y, _, h1, h2, h3, h4⟩ := callsTo_mem hm reachL_le
    exact ⟨x, c, y, rfl, h1, h2, h3, h4⟩

theorem ofFn_small (F : List FR) (fn : Int) : (ofFn F fn).length ≤ 1024 := ofFn_len F fn

/-- The search from x0 for j: what is to be looked at, how far it was looked at, what was met. -/
structure Srch (F : List FR) (j : Nat) (x0 : Int) (n : Nat) (T : List Int) (i : Nat) (M : List Bool) : Prop where
  len : M.length = n
  range : ∀ y ∈ T, 0 ≤ y ∧ y < (n : Int)
  start : x0 ∈ T
  clo : ∀ y : Nat, M.getD y false = true → ∀ z ∈ ofFn F (y : Int), z ∈ T
  dn : ∀ y ∈ T.take i, y ≠ (j : Int) ∧ M.getD y.toNat false = true
  small : T.length + 1025 * M.count false ≤ 40000
  hi : i ≤ T.length
theorem Srch.begin {F : List FR} {j n : Nat} {x0 : Int} (h0 : 0 ≤ x0) (h1 : x0 < (n : Int)) (hn : n ≤ 32) : Srch F j x0 n [x0] 0 (List.replicate n false) :=
  ⟨by simp, fun y hy => by simp at hy; subst hy; exact ⟨h0, h1⟩, by simp, fun y hy => by
    by_cases h : y < n
    · simp [List.getD, h] at hy
    · simp [List.getD, h] at hy, fun y hy => by simp at hy, by simp; omega, by simp⟩
theorem Srch.skip {F : List FR} {j n i : Nat} {x0 : Int} {T : List Int} {M : List Bool} {v : Nat} (h : Srch F j x0 n T i M) (hv : T[i]? = some (v : Int)) (hne : v ≠ j) (hm : M.getD v false = true) : Srch F j x0 n T (i + 1) M :=
  ⟨h.len, h.range, h.start, h.clo, fun y hy => by
    rw [take_snoc hv, List.mem_append] at hy
    rcases hy with hy | hy
    · exact h.dn y hy
    · simp at hy; subst hy; exact ⟨by omega, by simpa using hm⟩, h.small, by have := (List.getElem?_eq_some_iff.1 hv).1; omega⟩
theorem Srch.push {F : List FR} {j n i : Nat} {x0 : Int} {T : List Int} {M : List Bool} {v : Nat} (h : Srch F j x0 n T i M) (hv : T[i]? = some (v : Int)) (hne : v ≠ j) (hm : M.getD v false = false) (hn : n = F.length) :
    Srch F j x0 n (T ++ ofFn F (v : Int)) (i + 1) (M.set v true) ∧ (T ++ ofFn F (v : Int)).length + 1025 * (M.set v true).count false < T.length + 1025 * M.count false := by
  have hi := (List.getElem?_eq_some_iff.1 hv).1
  have hvr := h.range _ (List.mem_of_getElem? hv)
  have hvM : v < M.length := by rw [h.len]; omega
  have hc := count_set hvM hm
  have ho := ofFn_len F (v : Int)
  refine ⟨⟨by rw [List.length_set]; exact h.len, fun y hy => ?_, List.mem_append_left _ h.start, fun y hy z hz => ?_, fun y hy => ?_, ?_, ?_⟩, ?_⟩
  · rcases List.mem_append.1 hy with hy | hy
    · exact h.range y hy
    · rw [hn]; exact ofFn_range hy
  · rw [getD_set _ _ _ _ _ hvM] at hy
    split at hy
    · rename_i e; subst e; exact List.mem_append_right _ hz
    · exact List.mem_append_left _ (h.clo y hy z hz)
  · have e : (T ++ ofFn F (v : Int)).take (i + 1) = T.take (i + 1) := List.take_append_of_le_length (by omega)
    rw [e, take_snoc hv, List.mem_append] at hy
    rw [getD_set _ _ _ _ _ hvM]
    rcases hy with hy | hy
    · have := h.dn y hy
      refine ⟨this.1, ?_⟩
      split
      · rfl
      · exact this.2
    · simp at hy; subst hy; exact ⟨by omega, by simp⟩
  · rw [List.length_append]; have := h.small; omega
  · rw [List.length_append]; omega
  · rw [List.length_append]; omega
theorem Srch.found {F : List FR} {j n : Nat} {x0 : Int} {T : List Int} {M : List Bool} (h : Srch F j x0 n T T.length M) (hb : Lead F x0 (j : Int) ∨ x0 = (j : Int)) : False := by
  have hd : ∀ y ∈ T, y ≠ (j : Int) ∧ M.getD y.toNat false = true := fun y hy => h.dn y (by rw [List.take_length]; exact hy)
  have hclo : ∀ y ∈ T, ∀ z ∈ ofFn F y, z ∈ T := fun y hy z hz => by
    have hr := h.range y hy
    exact h.clo y.toNat (hd y hy).2 z (by rw [show ((y.toNat : Nat) : Int) = y by omega]; exact hz)
  have hl : ∀ z, Lead F x0 z → z ∈ T := fun z hz => by
    induction hz with
    | one hg => exact hclo _ h.start _ hg
    | more _ hg ih => exact hclo _ ih _ hg
  rcases hb with hb | hb
  · exact (hd _ (hl _ hb)).1 rfl
  · exact (hd _ h.start).1 hb

/-- What stands in memory while the search goes on: the marks in block B, the list behind it. -/
structure SW (B : Nat) (W4 wr : World) (n : Nat) (M : List Bool) (v : Value) (T : List Int) : Prop where
  met : OwnBools wr B (.slice (some ⟨B, 0, none⟩) n n) M
  todo : OwnInts wr (B + 1) v T
  keep : Below B W4 wr
  size : B + 1 ≤ wr.heap.size
theorem SW.later {B n : Nat} {W4 wr w' : World} {M : List Bool} {v : Value} {T : List Int} (h : SW B W4 wr n M v T) (hb : Below wr.heap.size wr w') : SW B W4 w' n M v T :=
  ⟨ownsRow_below h.met hb (Nat.le_refl _), ownsRow_below h.todo hb (Nat.le_refl _), h.keep.trans (hb.mono (by have := h.size; omega)), by have := h.size; have := hb.size; omega⟩
theorem SW.mark {B n : Nat} {W4 wr : World} {M : List Bool} {v : Value} {T : List Int} (h : SW B W4 wr n M v T) (k : Nat) (b : Bool) : SW B W4 (wr.setCell ⟨B, k, none⟩ (.bool b)) n (M.set k b) v T :=
  ⟨OwnBools.store h.met k b, ownsRow_setCell_below h.todo (Nat.lt_succ_self B) _, h.keep.setCell (Nat.le_refl _) _, by rw [size_set]; exact h.size⟩
end Go.Proofs.YtggkeodoenhmoaaDoor
