/- mean: the walks of MeanNames and MeanSums. -/
import Derived.Test.YtgcplcffejbniaaMnMem
namespace Go.Proofs.Ytgcplcffejbniaa
open Go.RowKit Go.Maps

theorem ints_two {w : World} {g : Nat} {x y : Int} (h : BlkM w g #[.int .i64 x, .int .i64 y]) : IntsIn w (.slice (some ⟨g, 0, none⟩) 2 2) [x, y] := by
  refine ⟨rfl, some ⟨g, 0, none⟩, 2, rfl, Nat.le_refl _, by decide, by simp, fun _ => ⟨g, 0, rfl, h.1, fun i u hu => ?_⟩⟩
  rw [Nat.zero_add]
  exact h.2 i u (by simpa [intVs] using hu)
theorem mrun_sum (lo hi x y most : Int) (h1 : lo ≤ hi) (h2 : lo ≠ leastI) (h3 : hi ≠ leastI) (hlo : in64 lo) (hhi : in64 hi) (hx : in64 x) (hy : in64 y) (hm1 : 1 ≤ most) (hm2 : most ≤ 9223372036854775807) (vf : Value) (vp vb : Nat → Value) (W : World) (h : PgIn W (pSum lo hi) (.slice none 0 0) vf vp vb) (g : Nat) (hg : BlkM W g #[.int .i64 x, .int .i64 y]) :
    Calls Try.prog 27 #[.agg #[.slice none 0 0, vf], .string mF, .slice (some ⟨g, 0, none⟩) 2 2, .int .i64 most] W (Gives (fltV (meanT (fSum lo hi) [x, y] most)) W) :=
  mrun_any (pSum lo hi) (.slice none 0 0) vf vp vb W h (sum_rng hlo hhi) (sum_rfault h1 h2 h3) (fSum lo hi) rfl _ [x, y] (ints_two hg) (fun z hz => by simp at hz; rcases hz with rfl | rfl; exact hx; exact hy) sumN (by decide)
    (fun p hp => by
      have : p = ⟨mA, lo, hi⟩ ∨ p = ⟨mB, lo, hi⟩ := by simpa [fSum] using hp
      rcases this with rfl | rfl
      · exact ⟨show mA ∈ sumN by decide, show mA.size ≤ 16 by decide⟩
      · exact ⟨show mB ∈ sumN by decide, show mB.size ≤ 16 by decide⟩) sum_simp most hm1 hm2
theorem aw1 : meanT (fSum 0 10) [0, 4] 100 = (0, 6, 5) := by rw [sum_mean _ _ _ _ _ (by decide)]; decide +kernel
theorem aw2 : meanT (fSum 0 10) [0, 4] 4 = (53, 0, 4) := by rw [sum_mean _ _ _ _ _ (by decide)]; decide +kernel
theorem aw3 : meanT (fSum 0 10) [0, 11] 100 = (2, 0, 0) := by rw [sum_mean _ _ _ _ _ (by decide)]; decide +kernel
theorem i64_small {z : Int} (h : -1000 ≤ z ∧ z ≤ 1000) : in64 z := by unfold in64; omega
set_option maxRecDepth 100000 in
set_option maxHeartbeats 4000000 in
theorem mnAwake_any (W : World) : Calls Try.prog 26 #[] W (Gives (.bool true) W) := by
  go_enter Try.func26, Try.ntmps26
  go_wp2_with fail
  refine (sum_any 0 10 W).mono ?_
  rintro E w1 ⟨g, vp, vb, rfl, hp1, hb1⟩
  obtain ⟨vf, hvf⟩ : ∃ v, v = Value.slice (some ⟨g, 0, none⟩) 1 1 := ⟨_, rfl⟩
  obtain ⟨P, hP⟩ : ∃ P, P = w1.heap.size := ⟨_, rfl⟩
  obtain ⟨W2, hW2⟩ : ∃ W2, W2 = w1.alloc (.cells #[.slice none 0 0, .slice (some ⟨g, 0, none⟩) 1 1] 26) := ⟨_, rfl⟩
  have hb2 : Below w1.heap.size w1 W2 := by rw [hW2]; exact (Below.refl _ _).alloc (Nat.le_refl _) _
  have p0 : W2.cell? ⟨P, 0, none⟩ = some (.slice none 0 0) := by rw [hW2, hP]; exact World.cell?_alloc_at _ _ _ _ rfl
  have p1 : W2.cell? ⟨P, 1, none⟩ = some (.slice (some ⟨g, 0, none⟩) 1 1) := by rw [hW2, hP]; exact World.cell?_alloc_at _ _ _ _ rfl
  have H2 := Lib.hid (And.intro (hp1.later hb2) (And.intro (hb1.trans (hb2.mono hb1.size)) (And.intro p0 p1)))
  have HW2 := Lib.hid (And.intro hW2 hP)
  have qP : P < W2.heap.size := block_lt_of_cell p0
  clear hp1 hb1 hW2 hP hb2 hvf
  go_upto_region 2 with (fail)
  rw [← HW2.out.2, ← HW2.out.1]
  -- call 2
  obtain ⟨A3, hA3⟩ : ∃ A, A = W2.heap.size := ⟨_, rfl⟩
  obtain ⟨V3, hV3⟩ : ∃ V, V = W2.alloc (.cells #[.int .i64 0, .int .i64 4] 2) := ⟨_, rfl⟩
  have hbv3 : Below W2.heap.size W2 V3 := by rw [hV3]; exact (Below.refl _ _).alloc (Nat.le_refl _) _
  have hm3 : BlkM V3 A3 #[.int .i64 0, .int .i64 4] := by rw [hV3]; exact .made hA3
  have hcall3 := mrun_sum 0 10 0 4 100 (by decide) (by decide) (by decide) (i64_small (by decide)) (i64_small (by decide)) (i64_small (by decide)) (i64_small (by decide)) (by decide) (by decide) _ vp vb V3 (H2.out.1.later hbv3) A3 hm3
  rw [aw1] at hcall3
  unfold fltV at hcall3
  have HV3 := Lib.hid (And.intro hV3 (And.intro hA3 hbv3))
  have Hcall3 := Lib.hid hcall3
  clear hA3 hV3 hbv3 hm3 hcall3
  go_wp2_with fail
  rw [← HV3.out.2.1, show (⟨#[102]⟩ : ByteArray) = mF from rfl, ← HV3.out.1]
  refine Hcall3.out.mono ?_
  rintro E w3 ⟨rfl, hb3⟩
  obtain ⟨M3, hM3⟩ : ∃ A, A = w3.heap.size := ⟨_, rfl⟩
  obtain ⟨W3, hW3⟩ : ∃ V, V = w3.alloc (.cells #[.int .i64 0, .int .i64 6, .int .i64 5] 55) := ⟨_, rfl⟩
  have hbw3 : Below w3.heap.size w3 W3 := by rw [hW3]; exact (Below.refl _ _).alloc (Nat.le_refl _) _
  have hbx3 : Below W2.heap.size W2 W3 := HV3.out.2.2.trans ((hb3.trans (hbw3.mono hb3.size)).mono HV3.out.2.2.size)
  have m3 : BlkM W3 M3 #[.int .i64 0, .int .i64 6, .int .i64 5] := by rw [hW3]; exact .made hM3
  have H3 := Lib.hid (And.intro (H2.out.1.later hbx3) (And.intro (H2.out.2.1.trans (hbx3.mono H2.out.2.1.size)) (And.intro hbx3 m3)))
  have q0 := (hbx3.cell (p := ⟨P, 0, none⟩) qP).trans p0
  have q1 := (hbx3.cell (p := ⟨P, 1, none⟩) qP).trans p1
  have HW3 := Lib.hid (And.intro hW3 hM3)
  have qP' : P < W3.heap.size := Nat.lt_of_lt_of_le qP hbx3.size
  clear hM3 hW3 hbw3 hbx3 m3 hb3 p0 p1 qP Hcall3
  have p0 := q0
  have p1 := q1
  have qP := qP'
  clear q0 q1 qP'
  go_upto_region 3 with (fail)
  rw [← HW3.out.2, ← HW3.out.1]

  -- call 3
  obtain ⟨A4, hA4⟩ : ∃ A, A = W3.heap.size := ⟨_, rfl⟩
  obtain ⟨V4, hV4⟩ : ∃ V, V = W3.alloc (.cells #[.int .i64 0, .int .i64 4] 2) := ⟨_, rfl⟩
  have hbv4 : Below W3.heap.size W3 V4 := by rw [hV4]; exact (Below.refl _ _).alloc (Nat.le_refl _) _
  have hm4 : BlkM V4 A4 #[.int .i64 0, .int .i64 4] := by rw [hV4]; exact .made hA4
  have hcall4 := mrun_sum 0 10 0 4 4 (by decide) (by decide) (by decide) (i64_small (by decide)) (i64_small (by decide)) (i64_small (by decide)) (i64_small (by decide)) (by decide) (by decide) _ vp vb V4 (H3.out.1.later hbv4) A4 hm4
  rw [aw2] at hcall4
  unfold fltV at hcall4
  have HV4 := Lib.hid (And.intro hV4 (And.intro hA4 hbv4))
  have Hcall4 := Lib.hid hcall4
  clear hA4 hV4 hbv4 hm4 hcall4
  go_wp2_with fail
  rw [← HV4.out.2.1, show (⟨#[102]⟩ : ByteArray) = mF from rfl, ← HV4.out.1]
  refine Hcall4.out.mono ?_
  rintro E w4 ⟨rfl, hb4⟩
  obtain ⟨M4, hM4⟩ : ∃ A, A = w4.heap.size := ⟨_, rfl⟩
  obtain ⟨W4, hW4⟩ : ∃ V, V = w4.alloc (.cells #[.int .i64 53, .int .i64 0, .int .i64 4] 55) := ⟨_, rfl⟩
  have hbw4 : Below w4.heap.size w4 W4 := by rw [hW4]; exact (Below.refl _ _).alloc (Nat.le_refl _) _
  have hbx4 : Below W3.heap.size W3 W4 := HV4.out.2.2.trans ((hb4.trans (hbw4.mono hb4.size)).mono HV4.out.2.2.size)
  have m4 : BlkM W4 M4 #[.int .i64 53, .int .i64 0, .int .i64 4] := by rw [hW4]; exact .made hM4
  have H4 := Lib.hid (And.intro (H3.out.1.later hbx4) (And.intro (H3.out.2.1.trans (hbx4.mono H3.out.2.1.size)) (And.intro hbx4 m4)))
  have q0 := (hbx4.cell (p := ⟨P, 0, none⟩) qP).trans p0
  have q1 := (hbx4.cell (p := ⟨P, 1, none⟩) qP).trans p1
  have HW4 := Lib.hid (And.intro hW4 hM4)
  have qP' : P < W4.heap.size := Nat.lt_of_lt_of_le qP hbx4.size
  clear hM4 hW4 hbw4 hbx4 m4 hb4 p0 p1 qP Hcall4
  have p0 := q0
  have p1 := q1
  have qP := qP'
  clear q0 q1 qP'
  go_upto_region 4 with (fail)
  rw [← HW4.out.2, ← HW4.out.1]

  -- call 4
  obtain ⟨A5, hA5⟩ : ∃ A, A = W4.heap.size := ⟨_, rfl⟩
  obtain ⟨V5, hV5⟩ : ∃ V, V = W4.alloc (.cells #[.int .i64 0, .int .i64 11] 2) := ⟨_, rfl⟩
  have hbv5 : Below W4.heap.size W4 V5 := by rw [hV5]; exact (Below.refl _ _).alloc (Nat.le_refl _) _
  have hm5 : BlkM V5 A5 #[.int .i64 0, .int .i64 11] := by rw [hV5]; exact .made hA5
  have hcall5 := mrun_sum 0 10 0 11 100 (by decide) (by decide) (by decide) (i64_small (by decide)) (i64_small (by decide)) (i64_small (by decide)) (i64_small (by decide)) (by decide) (by decide) _ vp vb V5 (H4.out.1.later hbv5) A5 hm5
  rw [aw3] at hcall5
  unfold fltV at hcall5
  have HV5 := Lib.hid (And.intro hV5 (And.intro hA5 hbv5))
  have Hcall5 := Lib.hid hcall5
  clear hA5 hV5 hbv5 hm5 hcall5
  go_wp2_with fail
  rw [← HV5.out.2.1, show (⟨#[102]⟩ : ByteArray) = mF from rfl, ← HV5.out.1]
  refine Hcall5.out.mono ?_
  rintro E w5 ⟨rfl, hb5⟩
  obtain ⟨M5, hM5⟩ : ∃ A, A = w5.heap.size := ⟨_, rfl⟩
  obtain ⟨W5, hW5⟩ : ∃ V, V = w5.alloc (.cells #[.int .i64 2, .int .i64 0, .int .i64 0] 55) := ⟨_, rfl⟩
  have hbw5 : Below w5.heap.size w5 W5 := by rw [hW5]; exact (Below.refl _ _).alloc (Nat.le_refl _) _
  have hbx5 : Below W4.heap.size W4 W5 := HV5.out.2.2.trans ((hb5.trans (hbw5.mono hb5.size)).mono HV5.out.2.2.size)
  have m5 : BlkM W5 M5 #[.int .i64 2, .int .i64 0, .int .i64 0] := by rw [hW5]; exact .made hM5
  have H5 := Lib.hid (And.intro (H4.out.1.later hbx5) (And.intro (H4.out.2.1.trans (hbx5.mono H4.out.2.1.size)) (And.intro hbx5 m5)))
  have q0 := (hbx5.cell (p := ⟨P, 0, none⟩) qP).trans p0
  have q1 := (hbx5.cell (p := ⟨P, 1, none⟩) qP).trans p1
  have HW5 := Lib.hid (And.intro hW5 hM5)
  have qP' : P < W5.heap.size := Nat.lt_of_lt_of_le qP hbx5.size
  clear hM5 hW5 hbw5 hbx5 m5 hb5 p0 p1 qP Hcall5
  have p0 := q0
  have p1 := q1
  have qP := qP'
  clear q0 q1 qP'
  go_upto_region 5 with (fail)
  rw [← HW5.out.2, ← HW5.out.1]

  have h34 : Below W3.heap.size W3 W5 := H4.out.2.2.1.trans (H5.out.2.2.1.mono H4.out.2.2.1.size)
  have hM3 := H3.out.2.2.2.later h34 H3.out.2.2.2.1
  have hM4 := H4.out.2.2.2.later H5.out.2.2.1 H4.out.2.2.2.1
  have hM5 := H5.out.2.2.2
  have a0 := hM3.2 0 _ rfl
  have a1 := hM3.2 1 _ rfl
  have a2 := hM3.2 2 _ rfl
  have b0 := hM4.2 0 _ rfl
  have b1 := hM4.2 1 _ rfl
  have b2 := hM4.2 2 _ rfl
  have c0 := hM5.2 0 _ rfl
  have c1 := hM5.2 1 _ rfl
  have c2 := hM5.2 2 _ rfl
  clear p0 p1 h34 hM3 hM4 hM5
  go_wp2_with fail
  go_ret
  exact ⟨by first | rfl | simp, H5.out.2.1⟩
end Go.Proofs.Ytgcplcffejbniaa
