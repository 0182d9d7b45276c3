/- Plain facts on where instructions lead, and on what can be reached. No program in sight. -/
import Derived.Test.YtapjdndcnenadaaDoorNext
namespace Go.Proofs.YtapjdndcnenadaaDoor

theorem nextL_range {code : List Ins} {k v : Int} (h : v ∈ nextL code k) : 0 ≤ v ∧ v < code.length ∧ 0 ≤ k ∧ k < code.length := by
  unfold nextL at h
  split at h
  · simp at h
  · rename_i hk
    split at h
    · simp at h
    · rename_i x hx
      have hlt : k.toNat < code.length := (List.getElem?_eq_some_iff.1 hx).1
      unfold nextOf at h
      rw [List.mem_append] at h
      rcases h with h | h
      · split at h
        · simp at h; omega
        · simp at h
      · split at h
        · rename_i h2; simp at h; omega
        · simp at h

theorem snoc_cases {α : Type} (l : List α) : l = [] ∨ ∃ t x, l = t ++ [x] := by
  rcases List.eq_nil_or_concat l with h | ⟨t, x, h⟩
  · exact Or.inl h
  · exact Or.inr ⟨t, x, by simpa using h⟩

theorem nextL_len (code : List Ins) (k : Int) : (nextL code k).length ≤ 2 := by
  unfold nextL
  split
  · simp
  · split
    · simp
    · unfold nextOf
      split <;> split <;> simp

/-- What can be reached from the first instruction, without one (below 0: by all ways). -/
inductive Rch (code : List Ins) (gone : Int) : Nat → Prop
  | start : gone ≠ 0 → Rch code gone 0
  | step {u v : Nat} : Rch code gone u → (v : Int) ∈ nextL code u → (v : Int) ≠ gone → Rch code gone v

def hasB (code : List Ins) : Bool := decide (0 < code.length ∧ code.length ≤ 1024)
open Classical in
noncomputable def reachL (code : List Ins) (gone : Int) : List Bool := if hasB code = true then (List.range code.length).map fun v => decide (Rch code gone v) else []

theorem Rch.lt {code : List Ins} {gone : Int} (h0 : 0 < code.length) {v : Nat} (h : Rch code gone v) : v < code.length := by
  cases h with
  | start _ => exact h0
  | step _ h _ => have := nextL_range h; omega

theorem reachL_length {code : List Ins} {gone : Int} : (reachL code gone).length = if hasB code = true then code.length else 0 := by
  unfold reachL; split <;> simp

theorem reachL_get {code : List Ins} {gone : Int} (hh : hasB code = true) {v : Nat} (hv : v < code.length) : (reachL code gone).getD v false = true ↔ Rch code gone v := by
  unfold reachL; rw [if_pos hh]; simp [List.getD, hv]

/-- A list of bools is what can be reached, if it is closed and told by reasons. -/
theorem reachL_of {code : List Ins} {gone : Int} (hh : hasB code = true) {can : List Bool} (hl : can.length = code.length) (hs : ∀ v, v < code.length → can.getD v false = true → Rch code gone v)
    (h0 : gone ≠ 0 → can.getD 0 false = true) (hc : ∀ u v : Nat, u < code.length → v < code.length → can.getD u false = true → (v : Int) ∈ nextL code u → (v : Int) ≠ gone → can.getD v false = true) : can = reachL code gone := by
  have hpos : 0 < code.length := by simp [hasB] at hh; exact hh.1
  have hr : ∀ v, Rch code gone v → v < code.length ∧ can.getD v false = true := by
    intro v h
    induction h with
    | start g => exact ⟨hpos, h0 g⟩
    | step hu hv hg ih => have := nextL_range hv; exact ⟨by omega, hc _ _ ih.1 (by omega) ih.2 hv hg⟩
  apply List.ext_getElem (by rw [reachL_length, if_pos hh, hl])
  intro v h1 h2
  have hv : v < code.length := by omega
  have e1 : can.getD v false = can[v] := by simp [List.getD, h1]
  have e2 : (reachL code gone).getD v false = (reachL code gone)[v] := by simp [List.getD, h2]
  rw [← e1, ← e2, Bool.eq_iff_iff]
  exact ⟨fun h => (reachL_get hh hv).2 (hs v hv h), fun h => (hr v ((reachL_get hh hv).1 h)).2⟩

theorem count_set {l : List Bool} {i : Nat} (hi : i < l.length) (h : l.getD i false = false) : (l.set i true).count false + 1 = l.count false := by
  induction l generalizing i with
  | nil => simp at hi
  | cons b l ih =>
    cases i with
    | zero => simp [List.getD] at h; subst h; simp
    | succ i =>
      have := ih (i := i) (by simpa using hi) (by simpa [List.getD] using h)
      cases b <;> simp <;> omega

theorem getD_set {α : Type} (l : List α) (i j : Nat) (x d : α) (hi : i < l.length) : (l.set i x).getD j d = if j = i then x else l.getD j d := by
  simp only [List.getD, List.getElem?_set]
  by_cases h : i = j
  · subst h; simp [hi]
  · rw [if_neg h, if_neg (fun e => h e.symm)]

/-- The search by a stack: what is marked, what is still to be looked at. -/
structure RInv (code : List Ins) (can : List Bool) (todo : List Int) : Prop where
  len : can.length = code.length
  small : todo.length + 3 * can.count false ≤ 3 * code.length + 1
  pend : ∀ x ∈ todo, 0 ≤ x ∧ x < code.length ∧ Rch code (-1) x.toNat
  sound : ∀ v, v < code.length → can.getD v false = true → Rch code (-1) v
  first : can.getD 0 false = true ∨ (0 : Int) ∈ todo
  closed : ∀ u v : Nat, u < code.length → can.getD u false = true → (v : Int) ∈ nextL code u → can.getD v false = true ∨ (v : Int) ∈ todo

theorem RInv.start {code : List Ins} (h : 0 < code.length) : RInv code (List.replicate code.length false) [0] := by
  refine ⟨by simp, by simp; omega, ?_, ?_, Or.inr (by simp), ?_⟩
  · intro x hx; simp at hx; subst hx; exact ⟨by omega, by omega, Rch.start (by decide)⟩
  · intro v hv hc; simp [List.getD, hv] at hc
  · intro u v hu hc; simp [List.getD, hu] at hc

theorem RInv.skip {code : List Ins} {can : List Bool} {todo : List Int} {x : Nat} (h : RInv code can (todo ++ [(x : Int)])) (hm : can.getD x false = true) : RInv code can todo := by
  refine ⟨h.len, by have := h.small; simp at this; omega, fun y hy => h.pend y (by simp [hy]), h.sound, ?_, ?_⟩
  · rcases h.first with h0 | h0
    · exact Or.inl h0
    · simp at h0
      rcases h0 with h0 | h0
      · exact Or.inr h0
      · left; obtain rfl : x = 0 := by omega
        exact hm
  · intro u v hu hc hv
    rcases h.closed u v hu hc hv with h0 | h0
    · exact Or.inl h0
    · simp only [List.mem_append, List.mem_singleton] at h0
      rcases h0 with h0 | h0
      · exact Or.inr h0
      · left; obtain rfl : v = x := by omega
        exact hm

theorem RInv.mark {code : List Ins} {can : List Bool} {todo : List Int} {x : Nat} (h : RInv code can (todo ++ [(x : Int)])) (hm : can.getD x false = false) : RInv code (can.set x true) (todo ++ nextL code x) := by
  obtain ⟨_, hx, hr⟩ := h.pend x (by simp)
  have hxl : x < can.length := by rw [h.len]; omega
  have hr' : Rch code (-1) x := by simpa using hr
  have hn : ∀ v : Int, v ∈ nextL code x → 0 ≤ v ∧ v < code.length ∧ Rch code (-1) v.toNat := by
    intro v hv
    have hb := nextL_range hv
    obtain ⟨m, rfl⟩ := Int.eq_ofNat_of_zero_le hb.1
    exact ⟨hb.1, hb.2.1, Rch.step hr' (by simpa using hv) (by omega)⟩
  refine ⟨by simpa using h.len, ?_, ?_, ?_, ?_, ?_⟩
  · have h1 := count_set hxl hm
    have h2 := nextL_len code x
    have h3 := h.small
    simp at h3 ⊢
    omega
  · intro y hy
    rw [List.mem_append] at hy
    rcases hy with hy | hy
    · exact h.pend y (by simp [hy])
    · exact hn y hy
  · intro v hv hc
    rw [getD_set _ _ _ _ _ hxl] at hc
    split at hc
    · rename_i e; subst e; exact hr'
    · exact h.sound v hv hc
  · rw [getD_set _ _ _ _ _ hxl]
    split
    · exact Or.inl rfl
    · rename_i hne
      rcases h.first with h0 | h0
      · exact Or.inl h0
      · simp only [List.mem_append, List.mem_singleton] at h0 ⊢
        rcases h0 with h0 | h0
        · exact Or.inr (Or.inl h0)
        · exact absurd (by omega) hne
  · intro u v hu hc hv
    rw [getD_set _ _ _ _ _ hxl] at hc ⊢
    by_cases hvx : v = x
    · left; rw [if_pos hvx]
    rw [if_neg hvx]
    split at hc
    · rename_i e; subst e; exact Or.inr (by simp [hv])
    · rcases h.closed u v hu hc hv with h0 | h0
      · exact Or.inl h0
      · simp only [List.mem_append, List.mem_singleton] at h0 ⊢
        rcases h0 with h0 | h0
        · exact Or.inr (Or.inl h0)
        · exact absurd (by omega) hvx

theorem RInv.done {code : List Ins} {can : List Bool} (hh : hasB code = true) (h : RInv code can []) : can = reachL code (-1) := by
  refine reachL_of hh h.len h.sound (fun _ => ?_) (fun u v hu _ hc hv _ => ?_)
  · rcases h.first with h0 | h0
    · exact h0
    · simp at h0
  · rcases h.closed u v hu hc hv with h0 | h0
    · exact h0
    · simp at h0

theorem getD_mem {α : Type} {l : List α} {k : Nat} {d : α} (hk : k < l.length) : l.getD k d ∈ l := by simp [List.getD, hk]
theorem getD_append_left {l t : List Int} {j : Nat} (h : j < l.length) : (l ++ t).getD j 0 = l.getD j 0 := by
  simp [List.getD, List.getElem?_append_left h]
theorem mem_take_succ {l : List Int} {k : Nat} (hk : k < l.length) {v : Int} (h : v ∈ l.take (k + 1)) : v ∈ l.take k ∨ v = l.getD k 0 := by
  rw [List.take_succ_eq_append_getElem hk] at h
  simp only [List.mem_append, List.mem_singleton] at h
  simpa [List.getD, hk] using h

/-- The search by a queue: at its place i, and there behind k of the ways. -/
structure QInv (code : List Ins) (gone : Int) (can : List Bool) (todo : List Int) (i k : Nat) : Prop where
  len : can.length = code.length
  count : todo.length + can.count false = code.length
  pend : ∀ x ∈ todo, 0 ≤ x ∧ x < code.length ∧ Rch code gone x.toNat
  sound : ∀ v, v < code.length → can.getD v false = true → Rch code gone v
  first : can.getD 0 false = true
  closed : ∀ u : Nat, u < code.length → can.getD u false = true → (∃ j, i < j ∧ j < todo.length ∧ todo.getD j 0 = u) ∨
    (i < todo.length ∧ todo.getD i 0 = u ∧ ∀ v : Nat, (v : Int) ∈ (nextL code u).take k → (v : Int) ≠ gone → can.getD v false = true) ∨ (∀ v : Nat, (v : Int) ∈ nextL code u → (v : Int) ≠ gone → can.getD v false = true)

theorem QInv.start {code : List Ins} {gone : Int} (h : 0 < code.length) (hg : gone ≠ 0) : QInv code gone ((List.replicate code.length false).set 0 true) [0] 0 0 := by
  have hl : 0 < (List.replicate code.length false).length := by simpa using h
  refine ⟨by simp, ?_, ?_, ?_, ?_, ?_⟩
  · have := count_set hl (by simp [List.getD, h]); simp at this ⊢; omega
  · intro x hx; simp at hx; subst hx; exact ⟨by omega, by omega, Rch.start hg⟩
  · intro v hv hc
    rw [getD_set _ _ _ _ _ hl] at hc
    split at hc
    · rename_i e; subst e; exact Rch.start hg
    · simp [List.getD, hv] at hc
  · rw [getD_set _ _ _ _ _ hl]; simp
  · intro u hu hc
    rw [getD_set _ _ _ _ _ hl] at hc
    split at hc
    · rename_i e; subst e; exact Or.inr (Or.inl ⟨by simp, by simp, by simp⟩)
    · simp [List.getD, hu] at hc

theorem QInv.pass {code : List Ins} {gone : Int} {can : List Bool} {todo : List Int} {i k x : Nat} (h : QInv code gone can todo i k) (hk : k < (nextL code (todo.getD i 0)).length) (hx : (nextL code (todo.getD i 0)).getD k 0 = x)
    (hd : (x : Int) = gone ∨ can.getD x false = true) : QInv code gone can todo i (k + 1) := by
  refine ⟨h.len, h.count, h.pend, h.sound, h.first, fun u hu hc => ?_⟩
  rcases h.closed u hu hc with h1 | ⟨h1, h2, h3⟩ | h1
  · exact Or.inl h1
  · refine Or.inr (Or.inl ⟨h1, h2, fun v hv hg => ?_⟩)
    rw [← h2] at hv h3
    rcases mem_take_succ hk hv with h4 | h4
    · exact h3 v h4 hg
    · rw [hx] at h4
      obtain rfl : v = x := by omega
      rcases hd with hd | hd
      · exact absurd hd hg
      · exact hd
  · exact Or.inr (Or.inr h1)

theorem QInv.mark {code : List Ins} {gone : Int} {can : List Bool} {todo : List Int} {i k x : Nat} (h : QInv code gone can todo i k) (hi : i < todo.length) (hk : k < (nextL code (todo.getD i 0)).length) (hx : (nextL code (todo.getD i 0)).getD k 0 = x)
    (hg : (x : Int) ≠ gone) (hm : can.getD x false = false) : QInv code gone (can.set x true) (todo ++ [(x : Int)]) i (k + 1) := by
  have hmem : (x : Int) ∈ nextL code (todo.getD i 0) := by rw [← hx]; exact getD_mem hk
  have hr := nextL_range hmem
  have hxl : x < can.length := by rw [h.len]; omega
  have hti : todo.getD i 0 ∈ todo := getD_mem hi
  obtain ⟨p1, p2, p3⟩ := h.pend _ hti
  have hxr : Rch code gone x := by
    refine Rch.step p3 ?_ hg
    rw [Int.toNat_of_nonneg p1]; exact hmem
  have hg0 : ∀ v, can.getD v false = true → (can.set x true).getD v false = true := by
    intro v hv; rw [getD_set _ _ _ _ _ hxl]; split <;> first | rfl | exact hv
  refine ⟨by simpa using h.len, ?_, ?_, ?_, hg0 _ h.first, ?_⟩
  · have := count_set hxl hm; have := h.count; simp; omega
  · intro y hy
    simp only [List.mem_append, List.mem_singleton] at hy
    rcases hy with hy | rfl
    · exact h.pend y hy
    · exact ⟨by omega, by omega, hxr⟩
  · intro v hv hc
    rw [getD_set _ _ _ _ _ hxl] at hc
    split at hc
    · rename_i e; subst e; exact hxr
    · exact h.sound v hv hc
  · intro u hu hc
    by_cases hux : u = x
    · subst hux
      exact Or.inl ⟨todo.length, hi, by simp, by simp [List.getD]⟩
    · rw [getD_set _ _ _ _ _ hxl, if_neg hux] at hc
      rcases h.closed u hu hc with ⟨j, h1, h2, h3⟩ | ⟨h1, h2, h3⟩ | h1
      · exact Or.inl ⟨j, h1, by simp; omega, by rw [getD_append_left h2]; exact h3⟩
      · refine Or.inr (Or.inl ⟨by simp; omega, by rw [getD_append_left h1]; exact h2, fun v hv hg' => ?_⟩)
        rw [← h2] at hv h3
        rcases mem_take_succ hk hv with h4 | h4
        · exact hg0 _ (h3 v h4 hg')
        · rw [hx] at h4
          obtain rfl : v = x := by omega
          rw [getD_set _ _ _ _ _ hxl, if_pos rfl]
      · exact Or.inr (Or.inr fun v hv hg' => hg0 _ (h1 v hv hg'))

theorem QInv.next {code : List Ins} {gone : Int} {can : List Bool} {todo : List Int} {i k : Nat} (h : QInv code gone can todo i k) (hk : (nextL code (todo.getD i 0)).length ≤ k) : QInv code gone can todo (i + 1) 0 := by
  refine ⟨h.len, h.count, h.pend, h.sound, h.first, fun u hu hc => ?_⟩
  rcases h.closed u hu hc with ⟨j, h1, h2, h3⟩ | ⟨h1, h2, h3⟩ | h1
  · by_cases hj : j = i + 1
    · subst hj; exact Or.inr (Or.inl ⟨h2, h3, by simp⟩)
    · exact Or.inl ⟨j, by omega, h2, h3⟩
  · rw [h2, ] at hk
    rw [List.take_of_length_le hk] at h3
    exact Or.inr (Or.inr h3)
  · exact Or.inr (Or.inr h1)

theorem QInv.done {code : List Ins} {gone : Int} {can : List Bool} {todo : List Int} {i : Nat} (hh : hasB code = true) (h : QInv code gone can todo i 0) (hi : todo.length ≤ i) : can = reachL code gone := by
  refine reachL_of hh h.len h.sound (fun _ => h.first) (fun u v hu _ hc hv hg => ?_)
  rcases h.closed u hu hc with ⟨j, h1, h2, _⟩ | ⟨h1, _⟩ | h1
  · omega
  · omega
  · exact h1 v hv hg

theorem reachL_gone0 {code : List Ins} (hh : hasB code = true) : reachL code 0 = List.replicate code.length false := by
  refine (reachL_of hh (by simp) ?_ (fun h => absurd rfl h) ?_).symm
  · intro v hv hc; simp [List.getD, hv] at hc
  · intro u v hu _ hc; simp [List.getD, hu] at hc
end Go.Proofs.YtapjdndcnenadaaDoor
