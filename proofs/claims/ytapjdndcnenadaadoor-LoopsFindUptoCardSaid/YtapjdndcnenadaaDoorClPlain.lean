/- What can be reached is closed and lies in blocks: the plain law. -/
import Derived.Test.YtapjdndcnenadaaDoorRBPlain
namespace Go.Proofs.YtapjdndcnenadaaDoor
open Go.RowKit

def ledAt (l : List Bool) (es : List Edge) : List Bool := es.foldl (fun l e => if e.1 = e.2 then l else l.set e.2.toNat true) l
theorem ledAt_snoc (l : List Bool) (es : List Edge) (e : Edge) : ledAt l (es ++ [e]) = if e.1 = e.2 then ledAt l es else (ledAt l es).set e.2.toNat true := by simp [ledAt]
theorem ledAt_length (l : List Bool) (es : List Edge) : (ledAt l es).length = l.length := by
  induction es using snoc_ind with
  | h0 => rfl
  | hs es e ih => rw [ledAt_snoc]; split <;> simp [ih]
theorem ledAt_mem (l : List Bool) (es : List Edge) {e : Edge} (he : e ∈ es) (hne : e.1 ≠ e.2) (hl : e.2.toNat < l.length) : (ledAt l es).getD e.2.toNat false = true := by
  induction es using snoc_ind with
  | h0 => simp at he
  | hs es e' ih =>
    rw [ledAt_snoc]
    rw [List.mem_append, List.mem_singleton] at he
    rcases he with he | rfl
    · have := ih he
      split
      · exact this
      · rw [getD_set_any]; split
        · rfl
        · exact this
    · rw [if_neg hne, getD_set_any, ledAt_length, if_pos ⟨rfl, hl⟩]

theorem Rch.led {code : List Ins} {v : Nat} (h : Rch code (-1) v) : v = 0 ∨ ∃ u : Nat, Rch code (-1) u ∧ u ≠ v ∧ (v : Int) ∈ nextL code u := by
  induction h with
  | start => exact .inl rfl
  | @step u v hu hv _ ih =>
    by_cases huv : u = v
    · subst huv; exact ih
    · exact .inr ⟨u, hu, huv, hv⟩

theorem edgesTo_of {code : List Ins} {can : List Bool} {n u : Nat} {v : Int} (hu : u < n) (hc : can.getD u false = true) (hv : v ∈ nextL code u) : ((u : Int), v) ∈ edgesTo code can n := by
  induction n with
  | zero => omega
  | succ n ih =>
    rw [edgesTo, List.mem_append]
    by_cases h : u = n
    · subst h; right; rw [if_pos hc]; exact List.mem_map.2 ⟨v, hv, rfl⟩
    · exact .inl (ih (by omega))
theorem edgesL_of {code : List Ins} (hh : hasB code = true) {u : Nat} {v : Int} (hu : Rch code (-1) u) (hv : v ∈ nextL code u) : ((u : Int), v) ∈ edgesL code := by
  have h0 : 0 < code.length := by simp [hasB] at hh; exact hh.1
  have hl := hu.lt h0
  exact edgesTo_of (by rw [reachL_length, if_pos hh]; exact hl) ((reachL_get hh hl).2 hu) hv

theorem led_all {code : List Ins} (hh : hasB code = true) {v : Nat} (hv : v < code.length) (hc : (reachL code (-1)).getD v false = true) (h0 : 0 < v) : (ledAt (List.replicate code.length false) (edgesL code)).getD v false = true := by
  rcases ((reachL_get hh hv).1 hc).led with h | ⟨u, hu, hne, hm⟩
  · omega
  · have := ledAt_mem (List.replicate code.length false) (edgesL code) (edgesL_of hh hu hm) (by simp; omega) (by simpa using hv)
    simpa using this

theorem quietAt_mem (code : List Ins) (n : Nat) (es : List Edge) (k : Nat) (h : (quietAt code (List.replicate n false) es).getD k false = true) : ∃ e ∈ es, e.2.toNat = k ∧ e.1 = e.2 - 1 ∧ (nextL code e.1).length = 1 := by
  induction es using snoc_ind with
  | h0 => simp [quietAt, List.getD, List.getElem?_replicate] at h; split at h <;> simp at h
  | hs es e ih =>
    rw [quietAt_snoc, getD_set_any] at h
    split at h
    · rename_i hk
      simp only [Bool.or_eq_true, quietOne, Bool.and_eq_true, decide_eq_true_eq] at h
      rcases h with h | h
      · rw [← hk.1] at h
        obtain ⟨e', h1, h2⟩ := ih h
        exact ⟨e', List.mem_append_left _ h1, h2⟩
      · exact ⟨e, by simp, hk.1.symm, h.1, h.2⟩
    · obtain ⟨e', h1, h2⟩ := ih h
      exact ⟨e', List.mem_append_left _ h1, h2⟩

def begAt (l : List Bool) (xs : List Int) : List Bool := xs.foldl (fun l x => l.set x.toNat true) l
theorem begAt_snoc (l : List Bool) (xs : List Int) (x : Int) : begAt l (xs ++ [x]) = (begAt l xs).set x.toNat true := by simp [begAt]
theorem begAt_length (l : List Bool) (xs : List Int) : (begAt l xs).length = l.length := by
  induction xs using snoc_ind with
  | h0 => rfl
  | hs es e ih => rw [begAt_snoc]; simp [ih]
theorem begAt_mem (l : List Bool) (xs : List Int) {x : Int} (hx : x ∈ xs) (hl : x.toNat < l.length) : (begAt l xs).getD x.toNat false = true := by
  induction xs using snoc_ind with
  | h0 => simp at hx
  | hs es e ih =>
    rw [begAt_snoc, getD_set_any]
    rw [List.mem_append, List.mem_singleton] at hx
    rcases hx with h | rfl
    · split
      · rfl
      · exact ih h
    · rw [begAt_length, if_pos ⟨rfl, hl⟩]

theorem blocksTo_mem {into : List Int} {quiet can : List Bool} {n : Nat} {x : Int} : x ∈ blocksTo into quiet can n ↔ ∃ k : Nat, k < n ∧ x = k ∧ blockAt into quiet can k = true := by
  induction n with
  | zero => simp [blocksTo]
  | succ n ih =>
    rw [blocksTo, List.mem_append, ih]
    constructor
    · rintro (⟨k, h1, h2, h3⟩ | h)
      · exact ⟨k, by omega, h2, h3⟩
      · split at h
        · rename_i hb; simp at h; exact ⟨n, by omega, h, hb⟩
        · simp at h
    · rintro ⟨k, h1, h2, h3⟩
      by_cases hk : k = n
      · subst hk; right; rw [if_pos h3]; simp [h2]
      · exact .inl ⟨k, by omega, h2, h3⟩
theorem blocksTo_rise {into : List Int} {quiet can : List Bool} {n : Nat} : (blocksTo into quiet can n).Pairwise (· < ·) := by
  induction n with
  | zero => exact .nil
  | succ n ih =>
    rw [blocksTo, List.pairwise_append]
    refine ⟨ih, ?_, fun a ha b hb => ?_⟩
    · split <;> simp
    · obtain ⟨k, h1, h2, _⟩ := blocksTo_mem.1 ha
      split at hb
      · simp at hb; omega
      · simp at hb

/-- Each list's element: it can be reached, and stands behind the one ahead. -/
theorem blocksL_at {code : List Ins} (hh : hasB code = true) {i : Nat} (hi : i < (blocksL code).length) :
    0 ≤ (blocksL code).getD i 0 ∧ (blocksL code).getD i 0 < code.length ∧ (reachL code (-1)).getD ((blocksL code).getD i 0).toNat false = true ∧ (0 < i → (blocksL code).getD (i - 1) 0 < (blocksL code).getD i 0) := by
  have hm : (blocksL code).getD i 0 ∈ blocksL code := getD_mem hi
  obtain ⟨k, h1, h2, h3⟩ := blocksTo_mem.1 hm
  rw [reachL_length, if_pos hh] at h1
  refine ⟨by omega, by omega, ?_, fun h0 => ?_⟩
  · rw [h2]
    simp only [blockAt, Bool.and_eq_true] at h3
    simpa using h3.1
  · have hp : (blocksL code).Pairwise (· < ·) := blocksTo_rise
    have := List.pairwise_iff_getElem.1 hp (i - 1) i (by omega) hi (by omega)
    simpa [List.getD, hi, show i - 1 < (blocksL code).length by omega] using this

theorem blocksL_zero {code : List Ins} (hh : hasB code = true) : (0 : Int) ∈ blocksL code := by
  have h0 : 0 < code.length := by simp [hasB] at hh; exact hh.1
  refine blocksTo_mem.2 ⟨0, by rw [reachL_length, if_pos hh]; exact h0, rfl, ?_⟩
  have h1 : (reachL code (-1)).getD 0 false = true := (reachL_get hh h0).2 (Rch.start (by decide))
  unfold blockAt
  rw [h1]; simp

/-- An instruction that can be reached and begins no block: the one ahead leads to it alone. -/
theorem blocksL_within {code : List Ins} (hh : hasB code = true) {v : Nat} (hv : v < code.length) (hc : (reachL code (-1)).getD v false = true) (hb : ¬ (v : Int) ∈ blocksL code) :
    0 < v ∧ (reachL code (-1)).getD (v - 1) false = true ∧ nextL code ((v : Int) - 1) = [(v : Int)] := by
  have h1 : ¬ blockAt (intoAt (List.replicate code.length 0) (edgesL code)) (quietAt code (List.replicate code.length false) (edgesL code)) (reachL code (-1)) v = true := fun h => hb (blocksTo_mem.2 ⟨v, by rw [reachL_length, if_pos hh]; exact hv, rfl, h⟩)
  simp only [blockAt, hc, Bool.true_and, Bool.or_eq_true, not_or, Bool.not_eq_true', Bool.not_eq_true, Bool.not_eq_false] at h1
  obtain ⟨h2, _, h3⟩ := h1
  have h2 : v ≠ 0 := by simpa using h2
  obtain ⟨e, he, h4, h5, h6⟩ := quietAt_mem code _ _ v h3
  obtain ⟨m1, m2, m3, m4, m5, _, m7, _⟩ := edgesL_mem he
  have e2 : e.2 = v := by omega
  have e1 : e.1 = (v : Int) - 1 := by omega
  refine ⟨by omega, ?_, ?_⟩
  · have := (reachL_get hh (v := v - 1) (by omega)).2 (by rw [show v - 1 = e.1.toNat by omega]; exact m7)
    exact this
  · rw [e1] at h6 m5
    rw [e2] at m5
    obtain ⟨x, hx⟩ := List.length_eq_one_iff.1 h6
    rw [hx] at m5 ⊢
    simp at m5
    rw [m5]
end Go.Proofs.YtapjdndcnenadaaDoor
