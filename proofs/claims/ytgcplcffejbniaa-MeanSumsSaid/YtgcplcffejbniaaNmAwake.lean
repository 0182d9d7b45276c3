/- names: some answers that the document fixes. -/
import Derived.Test.YtgcplcffejbniaaNmSorted
namespace Go.Proofs.Ytgcplcffejbniaa
open Go.RowKit Go.Maps

def zeroEx : Ex := .mk 0 0 ⟨#[]⟩ []
/-- A call as a statement. -/
def callSt (s : ByteArray) : St := .mk 10 ⟨#[]⟩ 0 (.mk 4 0 s []) zeroEx [] [] []
def nilV : Value := .slice none 0 0
def callVs (s : ByteArray) : List Value := [.int .i64 10, .string ⟨#[]⟩, .int .i64 0, .int .i64 4, .int .i64 0, .string s, nilV, .int .i64 0, .int .i64 0, .string ⟨#[]⟩, nilV, nilV, nilV, nilV]
theorem rowOf_nil (w : World) (size : Nat) (P : Nat → Nat → Nat → Prop) : RowOf w nilV 0 size P := ⟨none, 0, rfl, Nat.le_refl _, Nat.zero_le _, fun _ => rfl, fun h => absurd h (Nat.lt_irrefl _)⟩
theorem exsIn_nil (w : World) : ExsIn w [] nilV := .mk _ _ (fun _ => nilV) (rowOf_nil _ _ _) fun i x h => by simp at h
theorem stsIn_nil (w : World) : StsIn w [] nilV := .mk _ _ (fun _ => nilV) (fun _ => nilV) (fun _ => nilV) (fun _ => nilV) (fun _ => nilV) (fun _ _ => nilV) (rowOf_nil _ _ _) (fun i x h => by simp at h) (fun i x h => by simp at h) (fun i x h => by simp at h) (fun i x h => by simp at h) (fun i x h => by simp at h) (fun i x k y h => by simp at h)
/-- Calls of one name, as statements, in a block of their own. -/
theorem stsIn_calls (w : World) (b n : Nat) (s : ByteArray) (hb : b < w.heap.size) (hn : n ≤ maxLen) (h : ∀ i, i < n → ∀ (j : Nat) u, (callVs s)[j]? = some u → w.cell? ⟨b, i * 14 + j, none⟩ = some u) : StsIn w (List.replicate n (callSt s)) (.slice (some ⟨b, 0, none⟩) n n) := by
  have hx : ∀ (i : Nat) x, (List.replicate n (callSt s))[i]? = some x → i < n ∧ x = callSt s := fun i x hx => by
    have hi : i < n := by have := (List.getElem?_eq_some_iff.1 hx).1; simpa using this
    exact ⟨hi, (List.mem_replicate.1 (List.mem_of_getElem? hx)).2⟩
  refine .mk _ _ (fun _ => nilV) (fun _ => nilV) (fun _ => nilV) (fun _ => nilV) (fun _ => nilV) (fun _ _ => nilV) ?_ (fun i x h => ?_) (fun i x h => ?_) (fun i x h => ?_) (fun i x h => ?_) (fun i x h => ?_) (fun i x k y h hy => ?_)
  · rw [List.length_replicate]
    refine ⟨some ⟨b, 0, none⟩, n, rfl, Nat.le_refl _, hn, by simp, fun _ => ⟨b, 0, rfl, hb, fun i hi x hxi => ?_⟩⟩
    obtain ⟨_, rfl⟩ := hx i x hxi
    have k : ∀ (j : Nat) u, (callVs s)[j]? = some u → w.cell? ⟨b, 0 + i * 14 + j, none⟩ = some u := fun j u hu => by rw [Nat.zero_add]; exact h i hi j u hu
    exact ⟨k 0 _ rfl, k 1 _ rfl, k 2 _ rfl, k 3 _ rfl, k 4 _ rfl, k 5 _ rfl, k 6 _ rfl, k 7 _ rfl, k 8 _ rfl, k 9 _ rfl, k 10 _ rfl, k 11 _ rfl, k 12 _ rfl, k 13 _ rfl⟩
  all_goals obtain ⟨_, rfl⟩ := hx i x h
  · exact exsIn_nil w
  · exact exsIn_nil w
  · exact stsIn_nil w
  · exact stsIn_nil w
  · exact rowOf_nil _ _ _
  · simp [callSt, St.cases] at hy
def nameF : ByteArray := ⟨#[102]⟩
def nameG : ByteArray := ⟨#[103]⟩
def pgOne : Pg := ⟨[], [⟨nameF, [], []⟩, ⟨nameG, [], [callSt nameF, callSt nameF]⟩]⟩
def pgTwo : Pg := ⟨[], [⟨nameF, [], [callSt nameF]⟩]⟩
theorem pgOne_fault : pgOne.nfault = (0, 0, 0) := by kernel_rfl
theorem pgTwo_fault : pgTwo.nfault = (8, 0, 1) := by kernel_rfl
theorem pgOne_calls : pgOne.ncalls 1 = [0] := by kernel_rfl
theorem pgOne_in (w W : World) (h : W = ((w.alloc (.cells #[.int .i64 10, .string ⟨#[]⟩, .int .i64 0, .int .i64 4, .int .i64 0, .string nameF, .slice none 0 0, .int .i64 0, .int .i64 0, .string ⟨#[]⟩, .slice none 0 0, .slice none 0 0, .slice none 0 0, .slice none 0 0,
      .int .i64 10, .string ⟨#[]⟩, .int .i64 0, .int .i64 4, .int .i64 0, .string nameF, .slice none 0 0, .int .i64 0, .int .i64 0, .string ⟨#[]⟩, .slice none 0 0, .slice none 0 0, .slice none 0 0, .slice none 0 0] 48)).alloc
      (.cells #[.string nameF, .slice none 0 0, .slice none 0 0, .string nameG, .slice none 0 0, .slice (some ⟨w.heap.size, 0, none⟩) 2 2] 40)).alloc (.cells #[.slice none 0 0, .slice (some ⟨w.heap.size + 1, 0, none⟩) 2 2] 26)) :
    PgIn W pgOne nilV (.slice (some ⟨w.heap.size + 1, 0, none⟩) 2 2) (fun _ => nilV) (fun i => if i = 0 then nilV else .slice (some ⟨w.heap.size, 0, none⟩) 2 2) ∧
      W.cell? ⟨w.heap.size + 1 + 1, 0, none⟩ = some nilV ∧ W.cell? ⟨w.heap.size + 1 + 1, 1, none⟩ = some (.slice (some ⟨w.heap.size + 1, 0, none⟩) 2 2) ∧ W.heap.size = w.heap.size + 3 ∧ Below w.heap.size w W := by
  obtain ⟨w1, hw1⟩ : ∃ w1, w1 = w.alloc (.cells #[.int .i64 10, .string ⟨#[]⟩, .int .i64 0, .int .i64 4, .int .i64 0, .string nameF, .slice none 0 0, .int .i64 0, .int .i64 0, .string ⟨#[]⟩, .slice none 0 0, .slice none 0 0, .slice none 0 0, .slice none 0 0,
      .int .i64 10, .string ⟨#[]⟩, .int .i64 0, .int .i64 4, .int .i64 0, .string nameF, .slice none 0 0, .int .i64 0, .int .i64 0, .string ⟨#[]⟩, .slice none 0 0, .slice none 0 0, .slice none 0 0, .slice none 0 0] 48) := ⟨_, rfl⟩
  obtain ⟨w2, hw2⟩ : ∃ w2, w2 = w1.alloc (.cells #[.string nameF, .slice none 0 0, .slice none 0 0, .string nameG, .slice none 0 0, .slice (some ⟨w.heap.size, 0, none⟩) 2 2] 40) := ⟨_, rfl⟩
  rw [← hw1, ← hw2] at h
  have z1 : w1.heap.size = w.heap.size + 1 := by rw [hw1]; simp
  have z2 : w2.heap.size = w1.heap.size + 1 := by rw [hw2]; simp
  have z3 : W.heap.size = w2.heap.size + 1 := by rw [h]; simp
  have b1 : Below w.heap.size w w1 := by rw [hw1]; exact (Below.refl _ _).alloc (Nat.le_refl _) _
  have b2 : Below w1.heap.size w1 w2 := by rw [hw2]; exact (Below.refl _ _).alloc (Nat.le_refl _) _
  have b3 : Below w2.heap.size w2 W := by rw [h]; exact (Below.refl _ _).alloc (Nat.le_refl _) _
  have k1 : ∀ j v, (callVs nameF ++ callVs nameF)[j]? = some v → W.cell? ⟨w.heap.size, j, none⟩ = some v := fun j v hj =>
    (b3.cell (p := ⟨w.heap.size, j, none⟩) (by show w.heap.size < _; omega)).trans ((b2.cell (p := ⟨w.heap.size, j, none⟩) (by show w.heap.size < _; omega)).trans (by rw [hw1, World.cell?_alloc_at _ _ _ _ rfl, ← Array.getElem?_toList]; exact hj))
  have k2 : ∀ j v, (#[.string nameF, .slice none 0 0, .slice none 0 0, .string nameG, .slice none 0 0, .slice (some ⟨w.heap.size, 0, none⟩) 2 2] : Array Value)[j]? = some v → W.cell? ⟨w.heap.size + 1, j, none⟩ = some v := fun j v hj =>
    (b3.cell (p := ⟨w.heap.size + 1, j, none⟩) (by show w.heap.size + 1 < _; omega)).trans (by rw [hw2, World.cell?_alloc_at _ _ _ _ z1.symm]; exact hj)
  have k3 : ∀ j v, (#[.slice none 0 0, .slice (some ⟨w.heap.size + 1, 0, none⟩) 2 2] : Array Value)[j]? = some v → W.cell? ⟨w.heap.size + 1 + 1, j, none⟩ = some v := fun j v hj => by
    rw [h, World.cell?_alloc_at _ _ _ _ (by omega)]; exact hj
  have hbody : StsIn W [callSt nameF, callSt nameF] (.slice (some ⟨w.heap.size, 0, none⟩) 2 2) := stsIn_calls W w.heap.size 2 nameF (by omega) (by decide) fun i hi j u hu => k1 _ _ (by
    have hj : j < 14 := (List.getElem?_eq_some_iff.1 hu).1
    obtain rfl | rfl : i = 0 ∨ i = 1 := by omega
    · rw [Nat.zero_mul, Nat.zero_add, List.getElem?_append_left hj]; exact hu
    · rw [List.getElem?_append_right (by show 14 ≤ _; omega)]
      have : 1 * 14 + j - (callVs nameF).length = j := by show 1 * 14 + j - 14 = j; omega
      rw [this]; exact hu)
  have two : ∀ i x, pgOne.funcs[i]? = some x → (i = 0 ∧ x = ⟨nameF, [], []⟩) ∨ (i = 1 ∧ x = ⟨nameG, [], [callSt nameF, callSt nameF]⟩) := fun i x hx => by
    match i with
    | 0 => simp [pgOne] at hx; exact .inl ⟨rfl, hx.symm⟩
    | 1 => simp [pgOne] at hx; exact .inr ⟨rfl, hx.symm⟩
    | i + 2 => simp [pgOne] at hx
  refine ⟨⟨⟨rfl, none, 0, rfl, Nat.le_refl _, Nat.zero_le _, fun _ => rfl, fun h => absurd h (Nat.lt_irrefl _)⟩, ⟨?_, fun i x hx => ?_, fun i x hx => ?_⟩⟩, k3 0 _ rfl, k3 1 _ rfl, by omega, (b1.trans (b2.mono (by omega))).trans (b3.mono (by omega))⟩
  · refine ⟨some ⟨w.heap.size + 1, 0, none⟩, 2, rfl, by decide, by decide, by simp, fun _ => ⟨w.heap.size + 1, 0, rfl, by omega, fun i hi x hx => ?_⟩⟩
    rcases two i x hx with ⟨rfl, rfl⟩ | ⟨rfl, rfl⟩
    · exact ⟨k2 0 _ rfl, k2 1 _ rfl, k2 2 _ rfl⟩
    · exact ⟨k2 3 _ rfl, k2 4 _ rfl, k2 5 _ rfl⟩
  · rcases two i x hx with ⟨rfl, rfl⟩ | ⟨rfl, rfl⟩
    · exact rowOf_nil _ _ _
    · exact rowOf_nil _ _ _
  · rcases two i x hx with ⟨rfl, rfl⟩ | ⟨rfl, rfl⟩
    · exact stsIn_nil _
    · exact hbody
theorem pgTwo_in (w W : World) (h : W = ((w.alloc (.cells #[.int .i64 10, .string ⟨#[]⟩, .int .i64 0, .int .i64 4, .int .i64 0, .string nameF, .slice none 0 0, .int .i64 0, .int .i64 0, .string ⟨#[]⟩, .slice none 0 0, .slice none 0 0, .slice none 0 0, .slice none 0 0] 48)).alloc
      (.cells #[.string nameF, .slice none 0 0, .slice (some ⟨w.heap.size, 0, none⟩) 1 1] 40)).alloc (.cells #[.slice none 0 0, .slice (some ⟨w.heap.size + 1, 0, none⟩) 1 1] 26)) :
    PgIn W pgTwo nilV (.slice (some ⟨w.heap.size + 1, 0, none⟩) 1 1) (fun _ => nilV) (fun _ => .slice (some ⟨w.heap.size, 0, none⟩) 1 1) ∧
      W.cell? ⟨w.heap.size + 1 + 1, 0, none⟩ = some nilV ∧ W.cell? ⟨w.heap.size + 1 + 1, 1, none⟩ = some (.slice (some ⟨w.heap.size + 1, 0, none⟩) 1 1) ∧ W.heap.size = w.heap.size + 3 ∧ Below w.heap.size w W := by
  obtain ⟨w1, hw1⟩ : ∃ w1, w1 = w.alloc (.cells #[.int .i64 10, .string ⟨#[]⟩, .int .i64 0, .int .i64 4, .int .i64 0, .string nameF, .slice none 0 0, .int .i64 0, .int .i64 0, .string ⟨#[]⟩, .slice none 0 0, .slice none 0 0, .slice none 0 0, .slice none 0 0] 48) := ⟨_, rfl⟩
  obtain ⟨w2, hw2⟩ : ∃ w2, w2 = w1.alloc (.cells #[.string nameF, .slice none 0 0, .slice (some ⟨w.heap.size, 0, none⟩) 1 1] 40) := ⟨_, rfl⟩
  rw [← hw1, ← hw2] at h
  have z1 : w1.heap.size = w.heap.size + 1 := by rw [hw1]; simp
  have z2 : w2.heap.size = w1.heap.size + 1 := by rw [hw2]; simp
  have z3 : W.heap.size = w2.heap.size + 1 := by rw [h]; simp
  have b1 : Below w.heap.size w w1 := by rw [hw1]; exact (Below.refl _ _).alloc (Nat.le_refl _) _
  have b2 : Below w1.heap.size w1 w2 := by rw [hw2]; exact (Below.refl _ _).alloc (Nat.le_refl _) _
  have b3 : Below w2.heap.size w2 W := by rw [h]; exact (Below.refl _ _).alloc (Nat.le_refl _) _
  have k1 : ∀ j v, (callVs nameF)[j]? = some v → W.cell? ⟨w.heap.size, j, none⟩ = some v := fun j v hj =>
    (b3.cell (p := ⟨w.heap.size, j, none⟩) (by show w.heap.size < _; omega)).trans ((b2.cell (p := ⟨w.heap.size, j, none⟩) (by show w.heap.size < _; omega)).trans (by rw [hw1, World.cell?_alloc_at _ _ _ _ rfl, ← Array.getElem?_toList]; exact hj))
  have k2 : ∀ j v, (#[.string nameF, .slice none 0 0, .slice (some ⟨w.heap.size, 0, none⟩) 1 1] : Array Value)[j]? = some v → W.cell? ⟨w.heap.size + 1, j, none⟩ = some v := fun j v hj =>
    (b3.cell (p := ⟨w.heap.size + 1, j, none⟩) (by show w.heap.size + 1 < _; omega)).trans (by rw [hw2, World.cell?_alloc_at _ _ _ _ z1.symm]; exact hj)
  have k3 : ∀ j v, (#[.slice none 0 0, .slice (some ⟨w.heap.size + 1, 0, none⟩) 1 1] : Array Value)[j]? = some v → W.cell? ⟨w.heap.size + 1 + 1, j, none⟩ = some v := fun j v hj => by
    rw [h, World.cell?_alloc_at _ _ _ _ (by omega)]; exact hj
  have hbody : StsIn W [callSt nameF] (.slice (some ⟨w.heap.size, 0, none⟩) 1 1) := stsIn_calls W w.heap.size 1 nameF (by omega) (by decide) fun i hi j u hu => by
    obtain rfl : i = 0 := by omega
    rw [Nat.zero_mul, Nat.zero_add]
    exact k1 j u hu
  have one : ∀ i x, pgTwo.funcs[i]? = some x → i = 0 ∧ x = ⟨nameF, [], [callSt nameF]⟩ := fun i x hx => by
    match i with
    | 0 => simp [pgTwo] at hx; exact ⟨rfl, hx.symm⟩
    | i + 1 => simp [pgTwo] at hx
  refine ⟨⟨⟨rfl, none, 0, rfl, Nat.le_refl _, Nat.zero_le _, fun _ => rfl, fun h => absurd h (Nat.lt_irrefl _)⟩, ⟨?_, fun i x hx => ?_, fun i x hx => ?_⟩⟩, k3 0 _ rfl, k3 1 _ rfl, by omega, (b1.trans (b2.mono (by omega))).trans (b3.mono (by omega))⟩
  · refine ⟨some ⟨w.heap.size + 1, 0, none⟩, 1, rfl, by decide, by decide, by simp, fun _ => ⟨w.heap.size + 1, 0, rfl, by omega, fun i hi x hx => ?_⟩⟩
    obtain ⟨rfl, rfl⟩ := one i x hx
    exact ⟨k2 0 _ rfl, k2 1 _ rfl, k2 2 _ rfl⟩
  · obtain ⟨rfl, rfl⟩ := one i x hx
    exact rowOf_nil _ _ _
  · obtain ⟨rfl, rfl⟩ := one i x hx
    exact hbody
end Go.Proofs.Ytgcplcffejbniaa
