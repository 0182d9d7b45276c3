/- Layer 13: the calls whose answers the document fixes. -/
import Derived.Test.YtggkeodoenhmoaaDominates
namespace Go.Proofs.Ytggkeodoenhmoaa
open Go.RowKit

/-- A set that is closed holds all that can be reached. -/
theorem Rch.within {code : List Ins} {g : Int} (S : List Bool) (h0 : g ≠ 0 → S.getD 0 false = true) (hc : ∀ u : Nat, u < code.length → ∀ v : Nat, v < code.length → S.getD u false = true → (v : Int) ∈ nextL code (u : Int) → (v : Int) ≠ g → S.getD v false = true) {v : Nat} (h : Rch code g v) : S.getD v false = true := by
  induction h with
  | start hg => exact h0 hg
  | @step u v hu hv hg ih =>
    obtain ⟨a, b, c, d⟩ := nextL_range hv
    exact hc u (by omega) v (by omega) ih hv hg

theorem sample_e01 : (1 : Int) ∈ nextL sampleCode 0 := by decide +kernel
theorem sample_e04 : (4 : Int) ∈ nextL sampleCode 0 := by decide +kernel
theorem sample_e12 : (2 : Int) ∈ nextL sampleCode 1 := by decide +kernel
theorem sample_e13 : (3 : Int) ∈ nextL sampleCode 1 := by decide +kernel
theorem sample_r (g : Int) (h0 : g ≠ 0) : Rch sampleCode g 0 ∧ (g ≠ 1 → Rch sampleCode g 1 ∧ (g ≠ 2 → Rch sampleCode g 2) ∧ (g ≠ 3 → Rch sampleCode g 3)) ∧ (g ≠ 4 → Rch sampleCode g 4) := by
  have r0 : Rch sampleCode g 0 := .start h0
  refine ⟨r0, fun h1 => ?_, fun h4 => .step r0 sample_e04 (fun e => h4 e.symm)⟩
  have r1 : Rch sampleCode g 1 := .step r0 sample_e01 (fun e => h1 e.symm)
  exact ⟨r1, fun h2 => .step r1 sample_e12 (fun e => h2 e.symm), fun h3 => .step r1 sample_e13 (fun e => h3 e.symm)⟩
theorem sample_not1 {v : Nat} (h : Rch sampleCode 1 v) : [true, false, false, false, true, false].getD v false = true := by
  have hc : ∀ u : Nat, u < 6 → ∀ v : Nat, v < 6 → [true, false, false, false, true, false].getD u false = true → (v : Int) ∈ nextL sampleCode (u : Int) → ((v : Int) == 1) = false → [true, false, false, false, true, false].getD v false = true := by decide +kernel
  exact Rch.within (code := sampleCode) _ (fun _ => rfl) (fun u hu v hv h1 h2 h3 => hc u hu v hv h1 h2 (by simpa using h3)) h
theorem sample_all {v : Nat} (h : Rch sampleCode (-1) v) : [true, true, true, true, true, false].getD v false = true := by
  have hc : ∀ u : Nat, u < 6 → ∀ v : Nat, v < 6 → [true, true, true, true, true, false].getD u false = true → (v : Int) ∈ nextL sampleCode (u : Int) → ((v : Int) == -1) = false → [true, true, true, true, true, false].getD v false = true := by decide +kernel
  exact Rch.within (code := sampleCode) _ (fun _ => rfl) (fun u hu v hv h1 h2 h3 => hc u hu v hv h1 h2 (by simp)) h
theorem sample_le {v : Nat} (h : Rch sampleCode (-1) v) : v ≤ 4 := by
  have h1 := sample_all h
  have h2 := h.lt (by decide)
  have h3 : sampleCode.length = 6 := rfl
  rw [h3] at h2
  by_cases h5 : v = 5
  · subst h5; simp at h1
  · omega
theorem sample_rch (v : Nat) (h : v ≤ 4) : Rch sampleCode (-1) v := by
  obtain ⟨r0, r1, r4⟩ := sample_r (-1) (by decide)
  obtain ⟨r1, r2, r3⟩ := r1 (by decide)
  match v, h with
  | 0, _ => exact r0
  | 1, _ => exact r1
  | 2, _ => exact r2 (by decide)
  | 3, _ => exact r3 (by decide)
  | 4, _ => exact r4 (by decide)
/-- Who dominates 1, 2, 3, 4. -/
theorem sample_dom {a b : Nat} (h : Dom sampleCode a b) (hne : a ≠ b) : a = 0 ∨ (a = 1 ∧ (b = 2 ∨ b = 3)) := by
  have ha := sample_le h.1
  have hb := sample_le h.2.1
  rcases h.2.2 with e | e
  · exact absurd e hne
  · by_cases a0 : a = 0
    · exact .inl a0
    · right
      obtain ⟨r0, r1, r4⟩ := sample_r (a : Int) (by omega)
      have hb0 : b ≠ 0 := fun e' => e (by rw [e']; exact r0)
      have hb4 : b ≠ 4 := fun e' => e (by rw [e']; exact r4 (by omega))
      by_cases a1 : a = 1
      · exact ⟨a1, by omega⟩
      · obtain ⟨r1, r2, r3⟩ := r1 (by omega)
        have hb1 : b ≠ 1 := fun e' => e (by rw [e']; exact r1)
        have hb2 : b ≠ 2 := fun e' => e (by rw [e']; exact r2 (by omega))
        have hb3 : b ≠ 3 := fun e' => e (by rw [e']; exact r3 (by omega))
        omega
theorem sample_d1 (b : Nat) (hb : b = 2 ∨ b = 3) : Dom sampleCode 1 b := by
  refine ⟨sample_rch 1 (by omega), sample_rch b (by omega), .inr fun h => ?_⟩
  have := sample_not1 h
  rcases hb with rfl | rfl <;> simp at this

theorem sample_tree : IsTree sampleCode [-1, 0, 1, 1, 0, -1] := by
  refine ⟨rfl, fun v hv h => ?_, fun v hv h0 hr => ?_⟩
  · have h3 : sampleCode.length = 6 := rfl
    rw [h3] at hv
    rcases h with rfl | h
    · rfl
    · have : ¬ v ≤ 4 := fun e => h (sample_rch v e)
      obtain rfl : v = 5 := by omega
      rfl
  · have hv4 := sample_le hr
    have z : ∀ a, Dom sampleCode a v → a ≠ v → v ≠ 2 → v ≠ 3 → Dom sampleCode a 0 := fun a ha hne h2 h3 => by
      rcases sample_dom ha hne with rfl | ⟨_, h⟩
      · exact .refl (sample_rch 0 (by omega))
      · omega
    have o : ∀ a, Dom sampleCode a v → a ≠ v → Dom sampleCode a 1 := fun a ha hne => by
      rcases sample_dom ha hne with rfl | ⟨rfl, _⟩
      · exact .zero (sample_rch 1 (by omega))
      · exact .refl (sample_rch 1 (by omega))
    match v, hv4 with
    | 0, _ => exact absurd rfl h0
    | 1, _ => exact ⟨0, rfl, by decide, .zero hr, fun a ha hne => z a ha hne (by decide) (by decide)⟩
    | 2, _ => exact ⟨1, rfl, by decide, sample_d1 2 (.inl rfl), o⟩
    | 3, _ => exact ⟨1, rfl, by decide, sample_d1 3 (.inr rfl), o⟩
    | 4, _ => exact ⟨0, rfl, by decide, .zero hr, fun a ha hne => z a ha hne (by decide) (by decide)⟩

theorem sample_hasB : hasB sampleCode = true := by decide
theorem sample_domB {a b : Nat} (ha : a < 6) (hb : b < 6) : domB sampleCode a b = true ↔ Dom sampleCode a b := by
  have h3 : sampleCode.length = 6 := rfl
  rw [domB_iff]
  constructor
  · rintro ⟨_, _, _, _, _, h⟩; simpa using h
  · intro h; exact ⟨sample_hasB, by omega, by rw [h3]; omega, by omega, by rw [h3]; omega, by simpa using h⟩
theorem sample_13 : domB sampleCode 1 3 = true := (sample_domB (a := 1) (b := 3) (by omega) (by omega)).2 (sample_d1 3 (.inr rfl))
theorem sample_33 : domB sampleCode 3 3 = true := (sample_domB (a := 3) (b := 3) (by omega) (by omega)).2 (.refl (sample_rch 3 (by omega)))
theorem sample_23 : domB sampleCode 2 3 = false := Bool.eq_false_iff.2 fun h => by
  rcases sample_dom ((sample_domB (a := 2) (b := 3) (by omega) (by omega)).1 h) (by decide) with h | ⟨h, _⟩ <;> omega
theorem sample_55 : domB sampleCode 5 5 = false := Bool.eq_false_iff.2 fun h => by
  have := sample_le ((sample_domB (a := 5) (b := 5) (by omega) (by omega)).1 h).1
  omega

theorem sameInts13_true (va vb : Value) (l : List Int) (w : World) (ha : IntsIn w va l) (hb : IntsIn w vb l) (hl : l.length ≤ 1000000000000000) : Calls Try.prog 31 #[va, vb] w (Reads (.bool true) w) :=
  (sameInts13_any va vb l l w ha hb hl hl).mono fun e w' h => by rwa [decide_eq_true rfl] at h

/-- The function that is asked, in its box. -/
structure F3 (w W : World) : Prop where
  fn : FnAt W (w.heap.size + 1) ⟨#[]⟩ (.slice none 0 0) 0 0 (.slice (some ⟨w.heap.size, 0, none⟩) 6 6)
  code : CodeIn W (.slice (some ⟨w.heap.size, 0, none⟩) 6 6) sampleCode
  below : Below w.heap.size w W
  size : w.heap.size + 2 ≤ W.heap.size
theorem F3.later {w W W' : World} (h : F3 w W) (hb : Below W.heap.size W W') : F3 w W' :=
  have hs := h.size
  ⟨h.fn.later hb (by omega), SliceIn.later h.code hb, h.below.trans (hb.mono (by omega)), Nat.le_trans h.size hb.size⟩

set_option maxRecDepth 100000 in
set_option maxHeartbeats 2000000 in
theorem fixed13_any (w : World) : Calls Try.prog 27 #[] w (Gives (.bool true) w) := by
  go_enter Try.func27, Try.ntmps27
  go_wp2_with fail
  obtain ⟨W0, hW0⟩ : ∃ W0 : World, W0 = (w.alloc (.cells (sampleCode.flatMap Ins.cells).toArray 53)).alloc (.cells #[.string ⟨#[]⟩, .slice none 0 0, .int .i64 0, .int .i64 0, .slice (some ⟨w.heap.size, 0, none⟩) 6 6] 25) := ⟨_, rfl⟩
  have hF0 : F3 w W0 := by
    rw [hW0]
    refine ⟨?_, ?_, ((Below.refl _ _).alloc (Nat.le_refl _) _).alloc (by (try simp only [World.size_alloc]); (try simp only [size_set]); omega) _, by simp⟩
    · have := FnAt.box (w.alloc (.cells (sampleCode.flatMap Ins.cells).toArray 53)) ⟨#[]⟩ (.slice none 0 0) 0 0 (.slice (some ⟨w.heap.size, 0, none⟩) 6 6) 25
      rw [World.size_alloc] at this
      exact this
    · exact SliceIn.later (sliceIn_new w (sampleCode.flatMap Ins.cells) 6 5 53 (by decide +kernel) (by decide)) ((Below.refl _ _).alloc (Nat.le_refl _) _)
  have H0 := Lib.hid hF0
  change Calls _ _ _ ((w.alloc (.cells (sampleCode.flatMap Ins.cells).toArray 53)).alloc (.cells #[.string ⟨#[]⟩, .slice none 0 0, .int .i64 0, .int .i64 0, .slice (some ⟨w.heap.size, 0, none⟩) 6 6] 25)) _
  rw [← hW0]
  clear hF0 hW0
  refine (tree_any ⟨#[]⟩ (.slice none 0 0) 0 0 (.slice (some ⟨w.heap.size, 0, none⟩) 6 6) sampleCode _ H0.out.code).mono ?_
  rintro e w1 ⟨-, v1, rfl, hv1, hb1⟩
  rw [treeL_eq sample_hasB sample_tree] at hv1
  have H1 : Hid (F3 w w1) := H0.out.later hb1
  have hI1 : IntsIn (w1.alloc (.cells (intVs [-1, 0, 1, 1, 0, -1]).toArray 3)) v1 [-1, 0, 1, 1, 0, -1] := SliceIn.later (SliceIn.of_owns hv1) ((Below.refl _ _).alloc (Nat.le_refl _) _)
  have HI1 := Lib.hid hI1
  clear hv1 hb1 hI1
  go_wp2_with fail
  refine (sameInts13_true _ _ [-1, 0, 1, 1, 0, -1] _ HI1.out (sliceIn_new w1 (intVs [-1, 0, 1, 1, 0, -1]) 6 1 3 rfl (by decide)) (by decide)).mono ?_
  rintro e w2' ⟨rfl, q2, rfl⟩
  obtain ⟨w2, hw2⟩ : ∃ w2 : World, w2 = (w1.alloc (.cells (intVs [-1, 0, 1, 1, 0, -1]).toArray 3)).drewN q2 := ⟨_, rfl⟩
  have H2 : Hid (F3 w w2) := by rw [hw2]; exact H1.out.later (below_drewN ((Below.refl _ _).alloc (Nat.le_refl _) _) _)
  rw [← hw2]
  clear hw2
  obtain ⟨f0, f1, f2, f3, f4⟩ := H2.out.fn
  go_wp2_with fail
  refine (dominates_any ⟨#[]⟩ (.slice none 0 0) 0 0 (.slice (some ⟨w.heap.size, 0, none⟩) 6 6) sampleCode 1 3 _ H2.out.code).mono ?_
  rintro e w3 ⟨-, rfl, hb3⟩
  have H3 : Hid (F3 w w3) := H2.out.later hb3
  rw [sample_13]
  clear hb3 f0 f1 f2 f3 f4
  obtain ⟨f0, f1, f2, f3, f4⟩ := H3.out.fn
  go_wp2_with fail
  refine (dominates_any ⟨#[]⟩ (.slice none 0 0) 0 0 (.slice (some ⟨w.heap.size, 0, none⟩) 6 6) sampleCode 2 3 _ H3.out.code).mono ?_
  rintro e w4 ⟨-, rfl, hb4⟩
  have H4 : Hid (F3 w w4) := H3.out.later hb4
  rw [sample_23]
  clear hb4 f0 f1 f2 f3 f4
  obtain ⟨f0, f1, f2, f3, f4⟩ := H4.out.fn
  go_wp2_with fail
  refine (dominates_any ⟨#[]⟩ (.slice none 0 0) 0 0 (.slice (some ⟨w.heap.size, 0, none⟩) 6 6) sampleCode 3 3 _ H4.out.code).mono ?_
  rintro e w5 ⟨-, rfl, hb5⟩
  have H5 : Hid (F3 w w5) := H4.out.later hb5
  rw [sample_33]
  clear hb5 f0 f1 f2 f3 f4
  obtain ⟨f0, f1, f2, f3, f4⟩ := H5.out.fn
  go_wp2_with fail
  refine (dominates_any ⟨#[]⟩ (.slice none 0 0) 0 0 (.slice (some ⟨w.heap.size, 0, none⟩) 6 6) sampleCode 5 5 _ H5.out.code).mono ?_
  rintro e w6 ⟨-, rfl, hb6⟩
  have H6 : Hid (F3 w w6) := H5.out.later hb6
  rw [sample_55]
  clear hb6 f0 f1 f2 f3 f4
  obtain ⟨f0, f1, f2, f3, f4⟩ := H6.out.fn
  go_wp2_with fail
  go_ret
  exact ⟨rfl, H6.out.below⟩
end Go.Proofs.Ytggkeodoenhmoaa
