/- names: some answers that the document fixes. -/
import Derived.Test.YtneibcpgengdnaaNmSorted
namespace Go.Proofs.Ytneibcpgengdnaa
open Go.RowKit Go.Maps

def zeroEx : Ex := .mk 0 0 ⟨#[]⟩ []
/-- A call as a statement. -/
def callSt (s : ByteArray) : St := .mk 10 ⟨#[]⟩ 0 (.mk 4 0 s []) zeroEx [] [] []
def nilV : Value := .slice none 0 0
def callVs (s : ByteArray) : List Value := [.int .i64 10, .string ⟨#[]⟩, .int .i64 0, .int .i64 4, .int .i64 0, .string s, nilV, .int .i64 0, .int .i64 0, .string ⟨#[]⟩, nilV, nilV, nilV, nilV]
theorem rowOf_nil (w : World) (size : Nat) (P : Nat → Nat → Nat → Prop) : RowOf w nilV 0 size P := ⟨none, 0, rfl, Nat.le_refl _, Nat.zero_le _, fun _ => rfl, fun h => absurd h (Nat.lt_irrefl _)⟩
theorem exsIn_nil (w : World) : ExsIn w [] nilV := .mk _ _ (fun _ => nilV) (rowOf_nil _ _ _) fun i x h => by simp at h
theorem stsIn_nil (w : World) : StsIn w [] nilV := .mk _ _ (fun _ => nilV) (fun _ => nilV) (fun _ => nilV) (fun _ => nilV) (fun _ => nilV) (fun _ _ => nilV) (rowOf_nil _ _ _) (fun i x h => by simp at h) (fun i x h => by simp at h) (fun i x h => by simp at h) (fun i x h => by simp at h) (fun i x h => by simp at h) (fun i x k y h => by simp at h)
/-- Calls of one name, as statements, in a block of their own. -/
theorem stsIn_calls (w : World) (b n : Nat) (s : ByteArray) (hb : b < w.heap.size) (hn : n ≤ maxLen) (h : ∀ i, i < n → ∀ (j : Nat) u, (callVs s)[j]? = some u → w.cell? ⟨b, i * 14 + j, none⟩ = some u) : StsIn w (List.replicate n (callSt s)) (.slice (some ⟨b, 0, none⟩) n n) := by
  have hx : ∀ (i : Nat) x, (List.replicate n (callSt s))[i]? = some x → i < n ∧ x = callSt s := fun i x hx => by
    have hi : i < n := by have := (List.getElem?_eq_some_iff.1 hx).1; simpa using this
    exact ⟨hi, (List.mem_replicate.1 (List.mem_of_getElem? hx)).2⟩
  refine .mk _ _ (fun _ => nilV) (fun _ => nilV) (fun _ => nilV) (fun _ => nilV) (fun _ => nilV) (fun _ _ => nilV) ?_ (fun i x h => ?_) (fun i x h => ?_) (fun i x h => ?_) (fun i x h => ?_) (fun i x h => ?_) (fun i x k y h hy => ?_)
  · rw [List.length_replicate]
    refine ⟨some ⟨b, 0, none⟩, n, rfl, Nat.le_refl _, hn, by simp, fun _ => ⟨b, 0, rfl, hb, fun i hi x hxi => ?_⟩⟩
    obtain ⟨_, rfl⟩ := hx i x hxi
    have k : ∀ (j : Nat) u, (callVs s)[j]? = some u → w.cell? ⟨b, 0 + i * 14 + j, none⟩ = some u := fun j u hu => by rw [Nat.zero_add]; exact h i hi j u hu
    exact ⟨k 0 _ rfl, k 1 _ rfl, k 2 _ rfl, k 3 _ rfl, k 4 _ rfl, k 5 _ rfl, k 6 _ rfl, k 7 _ rfl, k 8 _ rfl, k 9 _ rfl, k 10 _ rfl, k 11 _ rfl, k 12 _ rfl, k 13 _ rfl⟩
  all_goals obtain ⟨_, rfl⟩ := hx i x h
  · exact exsIn_nil w
  · exact exsIn_nil w
  · exact stsIn_nil w
  · exact stsIn_nil w
  · exact rowOf_nil _ _ _
  · simp [callSt, St.cases] at hy
set_option maxRecDepth 100000 in
theorem call_any (s : ByteArray) (W : World) : Calls Try.prog 18 #[.string s] W (Gives (.agg (callVs s).toArray) W) := by
  unfold callVs nilV
  go_enter Try.func18, Try.ntmps18
  go_wp2_with fail
  refine bodyPost_ret (by simp [results, Try.results18, go_sem]; try rfl) rfl ?_
  exact ⟨rfl, (Below.refl _ _).alloc (Nat.le_refl _) _⟩
def nameF : ByteArray := ⟨#[102]⟩
def nameG : ByteArray := ⟨#[103]⟩
def pgOne : Pg := ⟨[], [⟨nameF, [], []⟩, ⟨nameG, [], [callSt nameF, callSt nameF]⟩]⟩
def pgTwo : Pg := ⟨[], [⟨nameF, [], [callSt nameF]⟩]⟩
theorem pgOne_fault : pgOne.nfault = (0, 0, 0) := by kernel_rfl
theorem pgTwo_fault : pgTwo.nfault = (8, 0, 1) := by kernel_rfl
theorem pgOne_calls : pgOne.ncalls 1 = [0] := by kernel_rfl
theorem pgOne_in (w W : World) (h : W = ((w.alloc (.cells #[.int .i64 10, .string ⟨#[]⟩, .int .i64 0, .int .i64 4, .int .i64 0, .string nameF, .slice none 0 0, .int .i64 0, .int .i64 0, .string ⟨#[]⟩, .slice none 0 0, .slice none 0 0, .slice none 0 0, .slice none 0 0,
      .int .i64 10, .string ⟨#[]⟩, .int .i64 0, .int .i64 4, .int .i64 0, .string nameF, .slice none 0 0, .int .i64 0, .int .i64 0, .string ⟨#[]⟩, .slice none 0 0, .slice none 0 0, .slice none 0 0, .slice none 0 0] 47)).alloc
      (.cells #[.string nameF, .slice none 0 0, .slice none 0 0, .string nameG, .slice none 0 0, .slice (some ⟨w.heap.size, 0, none⟩) 2 2] 40)).alloc (.cells #[.slice none 0 0, .slice (some ⟨w.heap.size + 1, 0, none⟩) 2 2] 26)) :
    PgIn W pgOne nilV (.slice (some ⟨w.heap.size + 1, 0, none⟩) 2 2) (fun _ => nilV) (fun i => if i = 0 then nilV else .slice (some ⟨w.heap.size, 0, none⟩) 2 2) ∧
      W.cell? ⟨w.heap.size + 1 + 1, 0, none⟩ = some nilV ∧ W.cell? ⟨w.heap.size + 1 + 1, 1, none⟩ = some (.slice (some ⟨w.heap.size + 1, 0, none⟩) 2 2) ∧ W.heap.size = w.heap.size + 3 ∧ Below w.heap.size w W := by
  obtain ⟨w1, hw1⟩ : ∃ w1, w1 = w.alloc (.cells #[.int .i64 10, .string ⟨#[]⟩, .int .i64 0, .int .i64 4, .int .i64 0, .string nameF, .slice none 0 0, .int .i64 0, .int .i64 0, .string ⟨#[]⟩, .slice none 0 0, .slice none 0 0, .slice none 0 0, .slice none 0 0,
      .int .i64 10, .string ⟨#[]⟩, .int .i64 0, .int .i64 4, .int .i64 0, .string nameF, .slice none 0 0, .int .i64 0, .int .i64 0, .string ⟨#[]⟩, .slice none 0 0, .slice none 0 0, .slice none 0 0, .slice none 0 0] 47) := ⟨_, rfl⟩
  obtain ⟨w2, hw2⟩ : ∃ w2, w2 = w1.alloc (.cells #[.string nameF, .slice none 0 0, .slice none 0 0, .string nameG, .slice none 0 0, .slice (some ⟨w.heap.size, 0, none⟩) 2 2] 40) := ⟨_, rfl⟩
  rw [← hw1, ← hw2] at h
  have z1 : w1.heap.size = w.heap.size + 1 := by rw [hw1]; simp
  have z2 : w2.heap.size = w1.heap.size + 1 := by rw [hw2]; simp
  have z3 : W.heap.size = w2.heap.size + 1 := by rw [h]; simp
  have b1 : Below w.heap.size w w1 := by rw [hw1]; exact (Below.refl _ _).alloc (Nat.le_refl _) _
  have b2 : Below w1.heap.size w1 w2 := by rw [hw2]; exact (Below.refl _ _).alloc (Nat.le_refl _) _
  have b3 : Below w2.heap.size w2 W := by rw [h]; exact (Below.refl _ _).alloc (Nat.le_refl _) _
  have k1 : ∀ j v, (callVs nameF ++ callVs nameF)[j]? = some v → W.cell? ⟨w.heap.size, j, none⟩ = some v := fun j v hj =>
    (b3.cell (p := ⟨w.heap.size, j, none⟩) (by show w.heap.size < _; omega)).trans ((b2.cell (p := ⟨w.heap.size, j, none⟩) (by show w.heap.size < _; omega)).trans (by rw [hw1, World.cell?_alloc_at _ _ _ _ rfl, ← Array.getElem?_toList]; exact hj))
  have k2 : ∀ j v, (#[.string nameF, .slice none 0 0, .slice none 0 0, .string nameG, .slice none 0 0, .slice (some ⟨w.heap.size, 0, none⟩) 2 2] : Array Value)[j]? = some v → W.cell? ⟨w.heap.size + 1, j, none⟩ = some v := fun j v hj =>
    (b3.cell (p := ⟨w.heap.size + 1, j, none⟩) (by show w.heap.size + 1 < _; omega)).trans (by rw [hw2, World.cell?_alloc_at _ _ _ _ z1.symm]; exact hj)
  have k3 : ∀ j v, (#[.slice none 0 0, .slice (some ⟨w.heap.size + 1, 0, none⟩) 2 2] : Array Value)[j]? = some v → W.cell? ⟨w.heap.size + 1 + 1, j, none⟩ = some v := fun j v hj => by
    rw [h, World.cell?_alloc_at _ _ _ _ (by omega)]; exact hj
  have hbody : StsIn W [callSt nameF, callSt nameF] (.slice (some ⟨w.heap.size, 0, none⟩) 2 2) := stsIn_calls W w.heap.size 2 nameF (by omega) (by decide) fun i hi j u hu => k1 _ _ (by
    have hj : j < 14 := (List.getElem?_eq_some_iff.1 hu).1
    obtain rfl | rfl : i = 0 ∨ i = 1 := by omega
    · rw [Nat.zero_mul, Nat.zero_add, List.getElem?_append_left hj]; exact hu
    · rw [List.getElem?_append_right (by show 14 ≤ _; omega)]
      have : 1 * 14 + j - (callVs nameF).length = j := by show 1 * 14 + j - 14 = j; omega
      rw [this]; exact hu)
  have two : ∀ i x, pgOne.funcs[i]? = some x → (i = 0 ∧ x = ⟨nameF, [], []⟩) ∨ (i = 1 ∧ x = ⟨nameG, [], [callSt nameF, callSt nameF]⟩) := fun i x hx => by
    match i with
    | 0 => simp [pgOne] at hx; exact .inl ⟨rfl, hx.symm⟩
    | 1 => simp [pgOne] at hx; exact .inr ⟨rfl, hx.symm⟩
    | i + 2 => simp [pgOne] at hx
  refine ⟨⟨⟨rfl, none, 0, rfl, Nat.le_refl _, Nat.zero_le _, fun _ => rfl, fun h => absurd h (Nat.lt_irrefl _)⟩, ⟨?_, fun i x hx => ?_, fun i x hx => ?_⟩⟩, k3 0 _ rfl, k3 1 _ rfl, by omega, (b1.trans (b2.mono (by omega))).trans (b3.mono (by omega))⟩
  · refine ⟨some ⟨w.heap.size + 1, 0, none⟩, 2, rfl, by decide, by decide, by simp, fun _ => ⟨w.heap.size + 1, 0, rfl, by omega, fun i hi x hx => ?_⟩⟩
    rcases two i x hx with ⟨rfl, rfl⟩ | ⟨rfl, rfl⟩
    · exact ⟨k2 0 _ rfl, k2 1 _ rfl, k2 2 _ rfl⟩
    · exact ⟨k2 3 _ rfl, k2 4 _ rfl, k2 5 _ rfl⟩
  · rcases two i x hx with ⟨rfl, rfl⟩ | ⟨rfl, rfl⟩
    · exact rowOf_nil _ _ _
    · exact rowOf_nil _ _ _
  · rcases two i x hx with ⟨rfl, rfl⟩ | ⟨rfl, rfl⟩
    · exact stsIn_nil _
    · exact hbody
theorem pgTwo_in (w W : World) (h : W = ((w.alloc (.cells #[.int .i64 10, .string ⟨#[]⟩, .int .i64 0, .int .i64 4, .int .i64 0, .string nameF, .slice none 0 0, .int .i64 0, .int .i64 0, .string ⟨#[]⟩, .slice none 0 0, .slice none 0 0, .slice none 0 0, .slice none 0 0] 47)).alloc
      (.cells #[.string nameF, .slice none 0 0, .slice (some ⟨w.heap.size, 0, none⟩) 1 1] 40)).alloc (.cells #[.slice none 0 0, .slice (some ⟨w.heap.size + 1, 0, none⟩) 1 1] 26)) :
    PgIn W pgTwo nilV (.slice (some ⟨w.heap.size + 1, 0, none⟩) 1 1) (fun _ => nilV) (fun _ => .slice (some ⟨w.heap.size, 0, none⟩) 1 1) ∧
      W.cell? ⟨w.heap.size + 1 + 1, 0, none⟩ = some nilV ∧ W.cell? ⟨w.heap.size + 1 + 1, 1, none⟩ = some (.slice (some ⟨w.heap.size + 1, 0, none⟩) 1 1) ∧ W.heap.size = w.heap.size + 3 ∧ Below w.heap.size w W := by
  obtain ⟨w1, hw1⟩ : ∃ w1, w1 = w.alloc (.cells #[.int .i64 10, .string ⟨#[]⟩, .int .i64 0, .int .i64 4, .int .i64 0, .string nameF, .slice none 0 0, .int .i64 0, .int .i64 0, .string ⟨#[]⟩, .slice none 0 0, .slice none 0 0, .slice none 0 0, .slice none 0 0] 47) := ⟨_, rfl⟩
  obtain ⟨w2, hw2⟩ : ∃ w2, w2 = w1.alloc (.cells #[.string nameF, .slice none 0 0, .slice (some ⟨w.heap.size, 0, none⟩) 1 1] 40) := ⟨_, rfl⟩
  rw [← hw1, ← hw2] at h
  have z1 : w1.heap.size = w.heap.size + 1 := by rw [hw1]; simp
  have z2 : w2.heap.size = w1.heap.size + 1 := by rw [hw2]; simp
  have z3 : W.heap.size = w2.heap.size + 1 := by rw [h]; simp
  have b1 : Below w.heap.size w w1 := by rw [hw1]; exact (Below.refl _ _).alloc (Nat.le_refl _) _
  have b2 : Below w1.heap.size w1 w2 := by rw [hw2]; exact (Below.refl _ _).alloc (Nat.le_refl _) _
  have b3 : Below w2.heap.size w2 W := by rw [h]; exact (Below.refl _ _).alloc (Nat.le_refl _) _
  have k1 : ∀ j v, (callVs nameF)[j]? = some v → W.cell? ⟨w.heap.size, j, none⟩ = some v := fun j v hj =>
    (b3.cell (p := ⟨w.heap.size, j, none⟩) (by show w.heap.size < _; omega)).trans ((b2.cell (p := ⟨w.heap.size, j, none⟩) (by show w.heap.size < _; omega)).trans (by rw [hw1, World.cell?_alloc_at _ _ _ _ rfl, ← Array.getElem?_toList]; exact hj))
  have k2 : ∀ j v, (#[.string nameF, .slice none 0 0, .slice (some ⟨w.heap.size, 0, none⟩) 1 1] : Array Value)[j]? = some v → W.cell? ⟨w.heap.size + 1, j, none⟩ = some v := fun j v hj =>
    (b3.cell (p := ⟨w.heap.size + 1, j, none⟩) (by show w.heap.size + 1 < _; omega)).trans (by rw [hw2, World.cell?_alloc_at _ _ _ _ z1.symm]; exact hj)
  have k3 : ∀ j v, (#[.slice none 0 0, .slice (some ⟨w.heap.size + 1, 0, none⟩) 1 1] : Array Value)[j]? = some v → W.cell? ⟨w.heap.size + 1 + 1, j, none⟩ = some v := fun j v hj => by
    rw [h, World.cell?_alloc_at _ _ _ _ (by omega)]; exact hj
  have hbody : StsIn W [callSt nameF] (.slice (some ⟨w.heap.size, 0, none⟩) 1 1) := stsIn_calls W w.heap.size 1 nameF (by omega) (by decide) fun i hi j u hu => by
    obtain rfl : i = 0 := by omega
    rw [Nat.zero_mul, Nat.zero_add]
    exact k1 j u hu
  have one : ∀ i x, pgTwo.funcs[i]? = some x → i = 0 ∧ x = ⟨nameF, [], [callSt nameF]⟩ := fun i x hx => by
    match i with
    | 0 => simp [pgTwo] at hx; exact ⟨rfl, hx.symm⟩
    | i + 1 => simp [pgTwo] at hx
  refine ⟨⟨⟨rfl, none, 0, rfl, Nat.le_refl _, Nat.zero_le _, fun _ => rfl, fun h => absurd h (Nat.lt_irrefl _)⟩, ⟨?_, fun i x hx => ?_, fun i x hx => ?_⟩⟩, k3 0 _ rfl, k3 1 _ rfl, by omega, (b1.trans (b2.mono (by omega))).trans (b3.mono (by omega))⟩
  · refine ⟨some ⟨w.heap.size + 1, 0, none⟩, 1, rfl, by decide, by decide, by simp, fun _ => ⟨w.heap.size + 1, 0, rfl, by omega, fun i hi x hx => ?_⟩⟩
    obtain ⟨rfl, rfl⟩ := one i x hx
    exact ⟨k2 0 _ rfl, k2 1 _ rfl, k2 2 _ rfl⟩
  · obtain ⟨rfl, rfl⟩ := one i x hx
    exact rowOf_nil _ _ _
  · obtain ⟨rfl, rfl⟩ := one i x hx
    exact hbody
set_option maxRecDepth 100000 in
theorem nawake_any (W : World) : Calls Try.prog 10 #[] W (Gives (.bool true) W) := by
  go_enter Try.func10, Try.ntmps10
  go_wp2_with fail
  refine (call_any nameF W).mono ?_
  rintro e w1 ⟨rfl, hb1⟩
  go_wp2_with fail
  refine (call_any nameF w1).mono ?_
  rintro e w2 ⟨rfl, hb2⟩
  unfold callVs nilV
  have H2 := Lib.hid (hb1.trans (hb2.mono hb1.size))
  clear hb1 hb2
  obtain ⟨W3, hW3⟩ : ∃ W, W = ((w2.alloc (.cells #[.int .i64 10, .string ⟨#[]⟩, .int .i64 0, .int .i64 4, .int .i64 0, .string nameF, .slice none 0 0, .int .i64 0, .int .i64 0, .string ⟨#[]⟩, .slice none 0 0, .slice none 0 0, .slice none 0 0, .slice none 0 0,
      .int .i64 10, .string ⟨#[]⟩, .int .i64 0, .int .i64 4, .int .i64 0, .string nameF, .slice none 0 0, .int .i64 0, .int .i64 0, .string ⟨#[]⟩, .slice none 0 0, .slice none 0 0, .slice none 0 0, .slice none 0 0] 47)).alloc
      (.cells #[.string nameF, .slice none 0 0, .slice none 0 0, .string nameG, .slice none 0 0, .slice (some ⟨w2.heap.size, 0, none⟩) 2 2] 40)).alloc (.cells #[.slice none 0 0, .slice (some ⟨w2.heap.size + 1, 0, none⟩) 2 2] 26) := ⟨_, rfl⟩
  obtain ⟨hpg1, hc10, hc11, hz3, hb3⟩ := pgOne_in w2 W3 hW3
  obtain ⟨P1, hP1⟩ : ∃ b, b = w2.heap.size + 1 + 1 := ⟨_, rfl⟩
  obtain ⟨v1, hv1⟩ : ∃ v, v = Value.slice (some ⟨w2.heap.size + 1, 0, none⟩) 2 2 := ⟨_, rfl⟩
  rw [← hv1] at hpg1 hc11
  rw [← hP1] at hc10 hc11
  have q1 : P1 < W3.heap.size := by omega
  have H3 := Lib.hid (And.intro hpg1 (And.intro (H2.out.trans (hb3.mono H2.out.size)) (And.intro hc10 hc11)))
  have HW3 := Lib.hid (And.intro hW3 (And.intro hP1 hv1))
  clear hW3 hpg1 hc10 hc11 hz3 hb3 hP1 hv1
  go_upto_region 2 with (fail)
  rw [show (⟨#[102]⟩ : ByteArray) = nameF from rfl, show (⟨#[103]⟩ : ByteArray) = nameG from rfl, ← HW3.out.1, ← HW3.out.2.1, ← HW3.out.2.2]
  go_wp2_with fail
  refine (call_any nameF W3).mono ?_
  rintro e w4 ⟨rfl, hb4⟩
  unfold callVs nilV
  have H4 := Lib.hid (And.intro (H3.out.1.later hb4) (And.intro (H3.out.2.1.trans (hb4.mono H3.out.2.1.size)) (And.intro ((hb4.cell (p := ⟨P1, 0, none⟩) q1).trans H3.out.2.2.1) ((hb4.cell (p := ⟨P1, 1, none⟩) q1).trans H3.out.2.2.2))))
  have q2 : P1 < w4.heap.size := Nat.lt_of_lt_of_le q1 hb4.size
  clear hb4
  obtain ⟨W5, hW5⟩ : ∃ W, W = ((w4.alloc (.cells #[.int .i64 10, .string ⟨#[]⟩, .int .i64 0, .int .i64 4, .int .i64 0, .string nameF, .slice none 0 0, .int .i64 0, .int .i64 0, .string ⟨#[]⟩, .slice none 0 0, .slice none 0 0, .slice none 0 0, .slice none 0 0] 47)).alloc
      (.cells #[.string nameF, .slice none 0 0, .slice (some ⟨w4.heap.size, 0, none⟩) 1 1] 40)).alloc (.cells #[.slice none 0 0, .slice (some ⟨w4.heap.size + 1, 0, none⟩) 1 1] 26) := ⟨_, rfl⟩
  obtain ⟨hpg2, hc20, hc21, hz5, hb5⟩ := pgTwo_in w4 W5 hW5
  obtain ⟨P2, hP2⟩ : ∃ b, b = w4.heap.size + 1 + 1 := ⟨_, rfl⟩
  obtain ⟨v2, hv2⟩ : ∃ v, v = Value.slice (some ⟨w4.heap.size + 1, 0, none⟩) 1 1 := ⟨_, rfl⟩
  rw [← hv2] at hpg2 hc21
  rw [← hP2] at hc20 hc21
  have q3 : P2 < W5.heap.size := by omega
  have q4 : P1 < W5.heap.size := by omega
  have H5 := Lib.hid (And.intro hpg2 (And.intro (H4.out.1.later hb5) (H4.out.2.1.trans (hb5.mono H4.out.2.1.size))))
  have k10 := (hb5.cell (p := ⟨P1, 0, none⟩) q2).trans H4.out.2.2.1
  have k11 := (hb5.cell (p := ⟨P1, 1, none⟩) q2).trans H4.out.2.2.2
  have HW5 := Lib.hid (And.intro hW5 (And.intro hP2 hv2))
  clear hW5 hz5 hb5 hP2 hv2 hpg2
  go_upto_region 3 with (fail)
  rw [← HW5.out.1, ← HW5.out.2.1, ← HW5.out.2.2]
  go_wp2_with fail
  refine (ncalls_any pgOne nilV v1 _ _ 1 W5 H5.out.2.1).mono ?_
  rintro e w6 ⟨v6, rfl, hv6, hb6⟩
  rw [pgOne_calls] at hv6
  obtain ⟨_, a6, c6, hve, hl6, _, _, hc6⟩ := SliceIn.of_owns hv6
  obtain ⟨g6, o6, ha6, hg6, hcell6⟩ := hc6 (by decide)
  subst ha6
  have hx6 := hcell6 0 _ rfl
  rw [Nat.add_zero] at hx6
  simp only [List.length_cons, List.length_nil, Nat.zero_add] at hve hl6
  subst hve
  have j10 := (hb6.cell (p := ⟨P1, 0, none⟩) q4).trans k10
  have j11 := (hb6.cell (p := ⟨P1, 1, none⟩) q4).trans k11
  have j20 := (hb6.cell (p := ⟨P2, 0, none⟩) q3).trans hc20
  have j21 := (hb6.cell (p := ⟨P2, 1, none⟩) q3).trans hc21
  have H6 := Lib.hid (And.intro (H5.out.1.later hb6) (And.intro (H5.out.2.1.later hb6) (H5.out.2.2.trans (hb6.mono H5.out.2.2.size))))
  have q5 : P2 < w6.heap.size := Nat.lt_of_lt_of_le q3 hb6.size
  clear hb6 k10 k11 hc20 hc21 hv6 hcell6 hc6
  go_wp2_with fail
  refine (ncheck_any pgOne nilV v1 _ _ w6 H6.out.2.1).mono ?_
  rintro e w7 ⟨rfl, hb7⟩
  rw [pgOne_fault]
  unfold fltV
  have i20 := (hb7.cell (p := ⟨P2, 0, none⟩) q5).trans j20
  have i21 := (hb7.cell (p := ⟨P2, 1, none⟩) q5).trans j21
  have ix6 := (hb7.cell (p := ⟨g6, o6, none⟩) hg6).trans hx6
  have H7 := Lib.hid (And.intro (H6.out.1.later hb7) (H6.out.2.2.trans (hb7.mono H6.out.2.2.size)))
  have q6 : g6 < w7.heap.size := Nat.lt_of_lt_of_le hg6 hb7.size
  clear hb7 j10 j11 j20 j21 hx6
  go_wp2_with fail
  refine (ncheck_any pgTwo nilV v2 _ _ w7 H7.out.1).mono ?_
  rintro e w8 ⟨rfl, hb8⟩
  rw [pgTwo_fault]
  unfold fltV
  have jx6 := (hb8.cell (p := ⟨g6, o6, none⟩) q6).trans ix6
  have H8 := Lib.hid (H7.out.2.trans (hb8.mono H7.out.2.size))
  clear hb8 i20 i21 ix6
  go_wp2_with fail
  go_ret
  exact ⟨rfl, H8.out⟩
end Go.Proofs.Ytneibcpgengdnaa
