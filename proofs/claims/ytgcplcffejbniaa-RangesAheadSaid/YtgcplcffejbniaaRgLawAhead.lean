/- ranges: the walk of RangesAhead. -/
import Derived.Test.YtgcplcffejbniaaRgAwk
import Derived.Test.YtgcplcffejbniaaRgCut
import Derived.Test.YtgcplcffejbniaaRgLift
import Derived.Deep.RegionHeld3
import Derived.IntWalk
namespace Go.Proofs.Ytgcplcffejbniaa
open Go.RowKit Go.Maps

set_option maxRecDepth 100000 in
set_option maxHeartbeats 8000000 in
theorem rgLawAhead_any (W : World) (p : Pg) (vw vf : Value) (vp vb : Nat → Value) (k : Int) (params : Bool) (h : PgIn W p vw vf vp vb) (_ : p.near) (hrg : p.rng) (hk : in64 k) : Calls Try.prog 4 #[pgV vw vf, .int .i64 k, .bool params] W (Gives (.bool true) W) := by
  obtain ⟨aw, cw, rfl, -⟩ := h.widen.row.form
  obtain ⟨a, cap, rfl, hc1, hc2⟩ := h.funcs.row.form
  obtain ⟨n, hn⟩ : ∃ n, n = p.funcs.length := ⟨_, rfl⟩
  obtain ⟨m, hm⟩ : ∃ m, m = p.widen.length := ⟨_, rfl⟩
  rw [← hn, ← hm] at h
  rw [← hn, ← hm]
  rw [← hn] at hc1
  have hn62 : cap ≤ 9223372036854775807 := by have : maxLen ≤ 9223372036854775807 := by decide
                                              omega
  have HP := Lib.hid h
  have Hrg := Lib.hid hrg
  have hk2 : -9223372036854775808 ≤ k ∧ k ≤ 9223372036854775807 := hk
  have Hk := Lib.hid hk
  have Hl := Lib.hid (And.intro hm hn)
  obtain ⟨W1, hW1⟩ : ∃ W1, W1 = W.alloc (.cells #[.slice aw m cw, .slice a n cap] 26) := ⟨_, rfl⟩
  obtain ⟨B, hB⟩ : ∃ B, B = W.heap.size := ⟨_, rfl⟩
  have hb1 : Below W.heap.size W W1 := by rw [hW1]; exact (Below.refl _ _).alloc (Nat.le_refl _) _
  have c0 : W1.cell? ⟨B, 0, none⟩ = some (.slice aw m cw) := by rw [hW1, hB]; exact World.cell?_alloc_at _ _ _ _ rfl
  have c1 : W1.cell? ⟨B, 1, none⟩ = some (.slice a n cap) := by rw [hW1, hB]; exact World.cell?_alloc_at _ _ _ _ rfl
  have qB : B < W1.heap.size := by rw [hW1, hB]; simp
  have HW1 := Lib.hid (And.intro hW1 hB)
  have H1 := Lib.hid (And.intro hb1 (And.intro c0 c1))
  unfold pgV
  clear h hn hm hrg hk hW1 hB hb1 c0 c1
  go_enter Try.func4, Try.ntmps4
  go_upto_region 1 with (fail)
  rw [← HW1.out.1, ← HW1.out.2]
  go_wp2_with fail
  refine (rgAwake_any W1).mono ?_
  rintro e w2 ⟨rfl, hb2⟩
  have d0 := (hb2.cell (p := ⟨B, 0, none⟩) qB).trans H1.out.2.1
  have d1 := (hb2.cell (p := ⟨B, 1, none⟩) qB).trans H1.out.2.2
  have H2 := Lib.hid (And.intro (H1.out.1.trans (hb2.mono H1.out.1.size)) (And.intro d0 d1))
  have q2 : B < w2.heap.size := Nat.lt_of_lt_of_le qB hb2.size
  clear hb2
  go_wp2_with fail
  refine (rgCheck_any p (.slice aw m cw) (.slice a n cap) vp vb w2 (HP.out.later H2.out.1) Hrg.out).mono ?_
  rintro e w3 ⟨rfl, hb3⟩
  obtain ⟨t, ht⟩ : ∃ t, t = p.rfault := ⟨_, rfl⟩
  rw [← ht]
  have Ht := Lib.hid ht
  obtain ⟨ea, eb, ec⟩ := t
  unfold fltV
  obtain ⟨W4, hW4⟩ : ∃ W4, W4 = w3.alloc (.cells #[.int .i64 ea, .int .i64 eb, .int .i64 ec] 29) := ⟨_, rfl⟩
  obtain ⟨D, hD⟩ : ∃ D, D = w3.heap.size := ⟨_, rfl⟩
  have hb4 : Below w3.heap.size w3 W4 := by rw [hW4]; exact (Below.refl _ _).alloc (Nat.le_refl _) _
  have f0 : W4.cell? ⟨D, 0, none⟩ = some (.int .i64 ea) := by rw [hW4, hD]; exact World.cell?_alloc_at _ _ _ _ rfl
  have f1 : W4.cell? ⟨D, 1, none⟩ = some (.int .i64 eb) := by rw [hW4, hD]; exact World.cell?_alloc_at _ _ _ _ rfl
  have f2 : W4.cell? ⟨D, 2, none⟩ = some (.int .i64 ec) := by rw [hW4, hD]; exact World.cell?_alloc_at _ _ _ _ rfl
  have hb24 : Below w2.heap.size w2 W4 := hb3.trans (hb4.mono hb3.size)
  have H4 := Lib.hid (And.intro (H2.out.1.trans (hb24.mono H2.out.1.size)) (And.intro ((hb24.cell (p := ⟨B, 0, none⟩) q2).trans H2.out.2.1) (And.intro ((hb24.cell (p := ⟨B, 1, none⟩) q2).trans H2.out.2.2) (And.intro f0 (And.intro f1 f2)))))
  have q4 : B < W4.heap.size := Nat.lt_of_lt_of_le q2 hb24.size
  have q4D : D < W4.heap.size := by rw [hW4, hD]; simp
  have HW4 := Lib.hid (And.intro hW4 hD)
  clear ht hb3 hb4 hb24 hW4 hD f0 f1 f2 d0 d1
  go_upto_region 4 with (fail)
  rw [← HW4.out.1, ← HW4.out.2]
  obtain ⟨-, c0, c1, f0, f1, f2⟩ := H4.out
  go_wp2_with fail
  refine (ncheck_any p (.slice aw m cw) (.slice a n cap) vp vb W4 (HP.out.later H4.out.1)).mono ?_
  rintro e w5 ⟨rfl, hb5⟩
  have H5 := Lib.hid (And.intro (H4.out.1.trans (hb5.mono H4.out.1.size)) (And.intro ((hb5.cell (p := ⟨B, 0, none⟩) q4).trans c0) (And.intro ((hb5.cell (p := ⟨B, 1, none⟩) q4).trans c1) (And.intro ((hb5.cell (p := ⟨D, 0, none⟩) q4D).trans f0) (And.intro ((hb5.cell (p := ⟨D, 1, none⟩) q4D).trans f1) ((hb5.cell (p := ⟨D, 2, none⟩) q4D).trans f2))))))
  have q5 : B < w5.heap.size := Nat.lt_of_lt_of_le q4 hb5.size
  have q5D : D < w5.heap.size := Nat.lt_of_lt_of_le q4D hb5.size
  obtain ⟨u, hu⟩ : ∃ u, u = p.nfault := ⟨_, rfl⟩
  rw [← hu]
  have Hu := Lib.hid hu
  obtain ⟨ga, gb, gc⟩ := u
  unfold fltV
  clear hu hb5 c0 c1 f0 f1 f2
  obtain ⟨-, c0, c1, f0, f1, f2⟩ := H5.out
  have hfe := rgRun_faultE
  by_cases hg : ga = 0
  · subst hg
    --<A
    go_upto_region 7 with (fail)
    obtain ⟨j, hj⟩ : ∃ j : Nat, (j : Int) = max 0 (min k (n : Int)) := ⟨(max 0 (min k (n : Int))).toNat, by omega⟩
    rw [← hj]
    have hjn : j ≤ n := by omega
    have hjc : j ≤ cap := by omega
    clear hj
    have hpf : p.fault.1 = 0 ∧ p.nfault.1 = 0 := by
      have h1 : p.nfault.1 = 0 := by rw [← Hu.out]
      refine ⟨?_, h1⟩
      by_cases e : p.fault.1 = 0
      · exact e
      · rw [Pg.nfault_bad e] at h1; exact absurd h1 e
    have hq1 := PgIn.first (HP.out.later H5.out.1) (n := j) (by rw [← Hl.out.2]; exact hjn)
    have Hq1 := Lib.hid hq1
    have hcut := Pg.first_rfault (p := p) j hpf.1 hpf.2
    have Hcut := Lib.hid hcut
    have Hstr : Hid (ea = 0 → ∀ b, (p.first j).straight ((j : Int) - 1) b = p.straight ((j : Int) - 1) b) := fun e b => Pg.first_straight (by rw [← Ht.out]; exact e) (by rw [← Hl.out.2]; exact hjn) b
    clear hq1 hcut hpf
    obtain ⟨B0, hBe⟩ : ∃ B0, B0 = w5.heap.size := ⟨_, rfl⟩
    refine wp_region_held (S := Below B0 w5.drew) rfl ?_
    change wpAnyH _ _ _ _ (Below B0 w5.drew) _ _ _ w5.drew
    obtain ⟨W0, hW0⟩ : ∃ W0, W0 = w5.drew := ⟨_, rfl⟩
    rw [← hW0]
    have hb0 : Below w5.heap.size w5 W0 := by rw [hW0]; exact (Below.refl _ _).drew
    have hs0 : W0.heap.size = w5.heap.size := by rw [hW0]; rfl
    have hB0 : B0 ≤ W0.heap.size := by omega
    have Hfc : Hid (∀ W, Below B0 W0 W → W.cell? ⟨B, 0, none⟩ = some (.slice aw m cw) ∧ W.cell? ⟨B, 1, none⟩ = some (.slice a n cap)) := fun W hb => by
      have k := fun j => (hb.cell (p := ⟨B, j, none⟩) (by show B < B0; omega)).trans (hb0.cell (p := ⟨B, j, none⟩) q5)
      exact ⟨(k 0).trans c0, (k 1).trans c1⟩
    have Hb : Hid (Below B0 W0 W0) := Below.refl _ _
    obtain ⟨E, hE⟩ : ∃ E, E = W0.heap.size := ⟨_, rfl⟩
    obtain ⟨W7, hW7⟩ : ∃ W7, W7 = W0.alloc (.cells #[.slice aw m cw, .slice a j j] 26) := ⟨_, rfl⟩
    have hb7 : Below W0.heap.size W0 W7 := by rw [hW7]; exact (Below.refl _ _).alloc (Nat.le_refl _) _
    have hb57 : Below w5.heap.size w5 W7 := hb0.trans (hb7.mono (by omega))
    have e0 : W7.cell? ⟨E, 0, none⟩ = some (.slice aw m cw) := by rw [hW7, hE]; exact World.cell?_alloc_at _ _ _ _ rfl
    have e1 : W7.cell? ⟨E, 1, none⟩ = some (.slice a j j) := by rw [hW7, hE]; exact World.cell?_alloc_at _ _ _ _ rfl
    have g0 := (hb57.cell (p := ⟨D, 0, none⟩) q5D).trans f0
    have g1 := (hb57.cell (p := ⟨D, 1, none⟩) q5D).trans f1
    have g2 := (hb57.cell (p := ⟨D, 2, none⟩) q5D).trans f2
    have q7D : D < W7.heap.size := Nat.lt_of_lt_of_le q5D hb57.size
    have H7 := Lib.hid (And.intro (H5.out.1.trans (hb57.mono H5.out.1.size)) (Hq1.out.later hb57))
    have hb07 : Below B0 W0 W7 := hb7.mono hB0
    have HW7 := Lib.hid (And.intro hW7 hE)
    have Hb7 := Lib.hid hb07
    have hjj : (j : Int) ≤ (cap : Int) := by omega
    clear hb0 hs0 hW0 hBe hW7 hE hb7 hb57 c0 c1 f0 f1 f2 hb07
    refine wpAnyH_take (i := 0) (by simp only [List.getElem?_toArray, List.getElem?_cons_zero]; rfl) (by kernel_rfl) (by kernel_rfl) (by kernel_rfl) (by intro _ _ _ h; exact h) (Or.inl ⟨by rfl, fun w hw => by (go_simp; try rfl)⟩) Hb.out ?_
    refine wpAnyH_take (i := 1) (by simp only [List.getElem?_toArray, List.getElem?_cons_succ, List.getElem?_cons_zero]; rfl) (by kernel_rfl) (by kernel_rfl) (by kernel_rfl) (by intro _ _ _ h; exact h) (Or.inl ⟨by rfl, fun w hw => by (obtain ⟨c0, c1⟩ := Hfc.out w hw; go_simp; try rfl)⟩) Hb.out ?_
    go_frame
    refine wpAnyH_take (i := 2) (by simp only [List.getElem?_toArray, List.getElem?_cons_succ, List.getElem?_cons_zero]; rfl) (by kernel_rfl) (by kernel_rfl) (by kernel_rfl) (by intro _ _ _ h; exact h) (Or.inl ⟨by rfl, fun w hw => by (go_simp; try rfl)⟩) Hb.out ?_
    refine wpAnyH_take (i := 3) (by simp only [List.getElem?_toArray, List.getElem?_cons_succ, List.getElem?_cons_zero]; rfl) (by kernel_rfl) (by kernel_rfl) (by kernel_rfl) (by intro _ _ _ h; exact h) (Or.inl ⟨by rfl, fun w hw => by (obtain ⟨c0, c1⟩ := Hfc.out w hw; go_simp; try rfl)⟩) Hb.out ?_
    go_frame
    refine wpAnyH_take (i := 4) (by simp only [List.getElem?_toArray, List.getElem?_cons_succ, List.getElem?_cons_zero]; rfl) (by kernel_rfl) (by kernel_rfl) (by kernel_rfl) (by intro _ _ _ h; exact h) (Or.inl ⟨by rfl, fun w hw => by (go_simp; try rfl)⟩) Hb.out ?_
    refine wpAnyH_take (i := 5) (by simp only [List.getElem?_toArray, List.getElem?_cons_succ, List.getElem?_cons_zero]; rfl) (by kernel_rfl) (by kernel_rfl) (by kernel_rfl) (by intro _ _ _ h; exact h) (Or.inl ⟨by rfl, fun w hw => by (go_simp; try rfl)⟩) Hb.out ?_
    go_frame
    refine wpAnyH_take (i := 6) (by simp only [List.getElem?_toArray, List.getElem?_cons_succ, List.getElem?_cons_zero]; rfl) (by kernel_rfl) (by kernel_rfl) (by kernel_rfl) (by intro _ _ _ h; exact h) (Or.inl ⟨by rfl, fun w hw => by (go_simp; try rfl)⟩) Hb.out ?_
    refine wpAnyH_take (i := 7) (by simp only [List.getElem?_toArray, List.getElem?_cons_succ, List.getElem?_cons_zero]; rfl) (by kernel_rfl) (by kernel_rfl) (by kernel_rfl) (by intro _ _ _ h; exact h) (Or.inl ⟨by rfl, fun w hw => by (go_simp; try rfl)⟩) Hb.out ?_
    go_frame
    refine wpAnyH_ready (rs := [8]) (by kernel_rfl) (by simp) ?_
    refine AllReadyH.cons rfl (fun K hK => ?_) AllReadyH.nil
    go_simp
    refine hK.out _ _ (Hb.out.alloc hB0 _) (fun _ => ?_)
    clear hK K
    refine wpAnyH_ready (rs := [9]) (by kernel_rfl) (by simp) ?_
    refine AllReadyH.cons rfl (fun K hK => ?_) AllReadyH.nil
    go_simp
    rw [← HW7.out.1, ← HW7.out.2]
    refine hK.out _ _ Hb7.out (fun _ => ?_)
    clear hK K
    try go_frame
    refine wpAnyH_done (by kernel_rfl) ?_ _
    go_wp2_with fail
    refine (rgCheck_any (p.first j) (.slice aw m cw) (.slice a j j) vp vb W7 H7.out.2 (Pg.first_rng Hrg.out j)).mono ?_
    rintro e w8 ⟨rfl, hb8⟩
    obtain ⟨u, hu⟩ : ∃ u, u = (p.first j).rfault := ⟨_, rfl⟩
    rw [← hu]
    have Hu8 := Lib.hid hu
    obtain ⟨xa, xb, xc⟩ := u
    unfold fltV
    obtain ⟨G, hG⟩ : ∃ G, G = w8.heap.size := ⟨_, rfl⟩
    obtain ⟨W9, hW9⟩ : ∃ W9, W9 = w8.alloc (.cells #[.int .i64 xa, .int .i64 xb, .int .i64 xc] 29) := ⟨_, rfl⟩
    have hb9 : Below w8.heap.size w8 W9 := by rw [hW9]; exact (Below.refl _ _).alloc (Nat.le_refl _) _
    have hb79 : Below W7.heap.size W7 W9 := hb8.trans (hb9.mono hb8.size)
    have x0 : W9.cell? ⟨G, 0, none⟩ = some (.int .i64 xa) := by rw [hW9, hG]; exact World.cell?_alloc_at _ _ _ _ rfl
    have x1 : W9.cell? ⟨G, 1, none⟩ = some (.int .i64 xb) := by rw [hW9, hG]; exact World.cell?_alloc_at _ _ _ _ rfl
    have x2 : W9.cell? ⟨G, 2, none⟩ = some (.int .i64 xc) := by rw [hW9, hG]; exact World.cell?_alloc_at _ _ _ _ rfl
    have q7E : E < W7.heap.size := block_lt_of_cell e0
    have h0 := (hb79.cell (p := ⟨D, 0, none⟩) q7D).trans g0
    have h1 := (hb79.cell (p := ⟨D, 1, none⟩) q7D).trans g1
    have h2 := (hb79.cell (p := ⟨D, 2, none⟩) q7D).trans g2
    have i0 := (hb79.cell (p := ⟨E, 0, none⟩) q7E).trans e0
    have i1 := (hb79.cell (p := ⟨E, 1, none⟩) q7E).trans e1
    have q7B : B < W7.heap.size := block_lt_of_cell (Hfc.out W7 Hb7.out).1
    have l0 := (hb79.cell (p := ⟨B, 0, none⟩) q7B).trans (Hfc.out W7 Hb7.out).1
    have l1 := (hb79.cell (p := ⟨B, 1, none⟩) q7B).trans (Hfc.out W7 Hb7.out).2
    have H9 := Lib.hid (And.intro (H7.out.1.trans (hb79.mono H7.out.1.size)) (H7.out.2.later hb79))
    have HW9 := Lib.hid (And.intro hW9 hG)
    clear hu hb8 hb9 hb79 hW9 hG g0 g1 g2 e0 e1
    go_upto_region 9 with (fail)
    rw [← HW9.out.1, ← HW9.out.2]
    by_cases hea : ea = 0
    · subst hea
      have hx : (xa, xb, xc) = (0, 0, 0) := Hu8.out.trans (Hcut.out.1 (by rw [← Ht.out]))
      cases hx
      go_upto_region 13 with (fail)
      by_cases hj0 : j = 0
      · have hqj : ((j : Int) == 0) = true := by simp [hj0]
        --<B
        obtain ⟨B0x, hBe⟩ : ∃ B0, B0 = W9.heap.size := ⟨_, rfl⟩
        refine wp_region_held (S := Below B0x W9.drew) rfl ?_
        change wpAnyH _ _ _ _ (Below B0x W9.drew) _ _ _ W9.drew
        obtain ⟨W10, hW10⟩ : ∃ W0, W0 = W9.drew := ⟨_, rfl⟩
        rw [← hW10]
        have hb10 : Below W9.heap.size W9 W10 := by rw [hW10]; exact (Below.refl _ _).drew
        have hB10 : B0x ≤ W10.heap.size := by rw [hBe]; exact hb10.size
        have Hfc10 : Hid (∀ W, Below B0x W10 W → (W.cell? ⟨B, 0, none⟩ = some (.slice aw m cw) ∧ W.cell? ⟨B, 1, none⟩ = some (.slice a n cap)) ∧ W.cell? ⟨D, 0, none⟩ = some (.int .i64 0) ∧ (W.cell? ⟨E, 0, none⟩ = some (.slice aw m cw) ∧ W.cell? ⟨E, 1, none⟩ = some (.slice a j j))) := fun W hb => by
          have hb2 : Below W9.heap.size W9 W := hb10.trans (by rw [hBe] at hb; exact hb)
          exact ⟨⟨(hb2.cell (p := ⟨B, 0, none⟩) (block_lt_of_cell l0)).trans l0, (hb2.cell (p := ⟨B, 1, none⟩) (block_lt_of_cell l1)).trans l1⟩, (hb2.cell (p := ⟨D, 0, none⟩) (block_lt_of_cell h0)).trans h0, (hb2.cell (p := ⟨E, 0, none⟩) (block_lt_of_cell i0)).trans i0, (hb2.cell (p := ⟨E, 1, none⟩) (block_lt_of_cell i1)).trans i1⟩
        have Hw10 : Hid (∀ W', Below B0x W10 W' → Below W9.heap.size W9 W') := fun W hb => hb10.trans (by rw [hBe] at hb; exact hb)
        have Hb10 : Hid (Below B0x W10 W10) := Below.refl _ _
        clear hb10 hW10 hBe l0 l1 h0 h1 h2 i0 i1 x0 x1 x2
        refine wpAnyH_take (i := 0) (by simp only [List.getElem?_toArray, List.getElem?_cons_zero]; rfl) (by kernel_rfl) (by kernel_rfl) (by kernel_rfl) (by intro _ _ _ h; exact h) (Or.inl ⟨by rfl, fun w hw => by (obtain ⟨⟨l0, l1⟩, h0, i0, i1⟩ := Hfc10.out w hw; go_simp; try rfl)⟩) Hb10.out ?_
        refine wpAnyH_take (i := 1) (by simp only [List.getElem?_toArray, List.getElem?_cons_succ, List.getElem?_cons_zero]; rfl) (by kernel_rfl) (by kernel_rfl) (by kernel_rfl) (by intro _ _ _ h; exact h) (Or.inl ⟨by rfl, fun w hw => by (obtain ⟨⟨l0, l1⟩, h0, i0, i1⟩ := Hfc10.out w hw; go_simp; try rfl)⟩) Hb10.out ?_
        go_frame
        refine wpAnyH_take (i := 2) (by simp only [List.getElem?_toArray, List.getElem?_cons_succ, List.getElem?_cons_zero]; rfl) (by kernel_rfl) (by kernel_rfl) (by kernel_rfl) (by intro _ _ _ h; exact h) (Or.inl ⟨by rfl, fun w hw => by (obtain ⟨⟨l0, l1⟩, h0, i0, i1⟩ := Hfc10.out w hw; go_simp; try rfl)⟩) Hb10.out ?_
        refine wpAnyH_take (i := 3) (by simp only [List.getElem?_toArray, List.getElem?_cons_succ, List.getElem?_cons_zero]; rfl) (by kernel_rfl) (by kernel_rfl) (by kernel_rfl) (by intro _ _ _ h; exact h) (Or.inl ⟨by rfl, fun w hw => by (obtain ⟨⟨l0, l1⟩, h0, i0, i1⟩ := Hfc10.out w hw; go_simp; try rfl)⟩) Hb10.out ?_
        go_frame
        refine wpAnyH_take (i := 4) (by simp only [List.getElem?_toArray, List.getElem?_cons_succ, List.getElem?_cons_zero]; rfl) (by kernel_rfl) (by kernel_rfl) (by kernel_rfl) (by intro _ _ _ h; exact h) (Or.inl ⟨by rfl, fun w hw => by (obtain ⟨⟨l0, l1⟩, h0, i0, i1⟩ := Hfc10.out w hw; go_simp; try rfl)⟩) Hb10.out ?_
        refine wpAnyH_take (i := 5) (by simp only [List.getElem?_toArray, List.getElem?_cons_succ, List.getElem?_cons_zero]; rfl) (by kernel_rfl) (by kernel_rfl) (by kernel_rfl) (by intro _ _ _ h; exact h) (Or.inl ⟨by rfl, fun w hw => by (obtain ⟨⟨l0, l1⟩, h0, i0, i1⟩ := Hfc10.out w hw; go_simp; try rfl)⟩) Hb10.out ?_
        go_frame
        refine wpAnyH_take (i := 6) (by simp only [List.getElem?_toArray, List.getElem?_cons_succ, List.getElem?_cons_zero]; rfl) (by kernel_rfl) (by kernel_rfl) (by kernel_rfl) (by intro _ _ _ h; exact h) (Or.inl ⟨by rfl, fun w hw => by (obtain ⟨⟨l0, l1⟩, h0, i0, i1⟩ := Hfc10.out w hw; go_simp; try rfl)⟩) Hb10.out ?_
        refine wpAnyH_take (i := 7) (by simp only [List.getElem?_toArray, List.getElem?_cons_succ, List.getElem?_cons_zero]; rfl) (by kernel_rfl) (by kernel_rfl) (by kernel_rfl) (by intro _ _ _ h; exact h) (Or.inl ⟨by rfl, fun w hw => by (obtain ⟨⟨l0, l1⟩, h0, i0, i1⟩ := Hfc10.out w hw; go_simp; try rfl)⟩) Hb10.out ?_
        go_frame
        refine wpAnyH_take (i := 8) (by simp only [List.getElem?_toArray, List.getElem?_cons_succ, List.getElem?_cons_zero]; rfl) (by kernel_rfl) (by kernel_rfl) (by kernel_rfl) (by intro _ _ _ h; exact h) (Or.inr ⟨by go_simp, rfl⟩) Hb10.out ?_
        refine wpAnyH_take (i := 9) (by simp only [List.getElem?_toArray, List.getElem?_cons_succ, List.getElem?_cons_zero]; rfl) (by kernel_rfl) (by kernel_rfl) (by kernel_rfl) (by intro _ _ _ h; exact h) (Or.inr ⟨by go_simp, rfl⟩) Hb10.out ?_
        try go_frame
        refine wpAnyH_take (i := 10) (by simp only [List.getElem?_toArray, List.getElem?_cons_succ, List.getElem?_cons_zero]; rfl) (by kernel_rfl) (by kernel_rfl) (by kernel_rfl) (by intro _ _ _ h; exact h) (Or.inr ⟨by go_simp, rfl⟩) Hb10.out ?_
        refine wpAnyH_take (i := 11) (by simp only [List.getElem?_toArray, List.getElem?_cons_succ, List.getElem?_cons_zero]; rfl) (by kernel_rfl) (by kernel_rfl) (by kernel_rfl) (by intro _ _ _ h; exact h) (Or.inr ⟨by go_simp, rfl⟩) Hb10.out ?_
        try go_frame
        refine wpAnyH_take (i := 12) (by simp only [List.getElem?_toArray, List.getElem?_cons_succ, List.getElem?_cons_zero]; rfl) (by kernel_rfl) (by kernel_rfl) (by kernel_rfl) (by intro _ _ _ h; exact h) (Or.inr ⟨by go_simp, rfl⟩) Hb10.out ?_
        refine wpAnyH_take (i := 13) (by simp only [List.getElem?_toArray, List.getElem?_cons_succ, List.getElem?_cons_zero]; rfl) (by kernel_rfl) (by kernel_rfl) (by kernel_rfl) (by intro _ _ _ h; exact h) (Or.inr ⟨by go_simp, rfl⟩) Hb10.out ?_
        try go_frame
        refine wpAnyH_take (i := 14) (by simp only [List.getElem?_toArray, List.getElem?_cons_succ, List.getElem?_cons_zero]; rfl) (by kernel_rfl) (by kernel_rfl) (by kernel_rfl) (by intro _ _ _ h; exact h) (Or.inr ⟨by go_simp, rfl⟩) Hb10.out ?_
        refine wpAnyH_take (i := 15) (by simp only [List.getElem?_toArray, List.getElem?_cons_succ, List.getElem?_cons_zero]; rfl) (by kernel_rfl) (by kernel_rfl) (by kernel_rfl) (by intro _ _ _ h; exact h) (Or.inr ⟨by go_simp, rfl⟩) Hb10.out ?_
        try go_frame
        refine wpAnyH_take (i := 16) (by simp only [List.getElem?_toArray, List.getElem?_cons_succ, List.getElem?_cons_zero]; rfl) (by kernel_rfl) (by kernel_rfl) (by kernel_rfl) (by intro _ _ _ h; exact h) (Or.inr ⟨by go_simp, rfl⟩) Hb10.out ?_
        refine wpAnyH_take (i := 17) (by simp only [List.getElem?_toArray, List.getElem?_cons_succ, List.getElem?_cons_zero]; rfl) (by kernel_rfl) (by kernel_rfl) (by kernel_rfl) (by intro _ _ _ h; exact h) (Or.inr ⟨by go_simp, rfl⟩) Hb10.out ?_
        try go_frame
        refine wpAnyH_take (i := 18) (by simp only [List.getElem?_toArray, List.getElem?_cons_succ, List.getElem?_cons_zero]; rfl) (by kernel_rfl) (by kernel_rfl) (by kernel_rfl) (by intro _ _ _ h; exact h) (Or.inr ⟨by go_simp, rfl⟩) Hb10.out ?_
        try go_frame
        refine wpAnyH_take (i := 19) (by simp only [List.getElem?_toArray, List.getElem?_cons_succ, List.getElem?_cons_zero]; rfl) (by kernel_rfl) (by kernel_rfl) (by kernel_rfl) (by intro _ _ _ h; exact h) (Or.inl ⟨by rfl, fun w hw => by (obtain ⟨⟨l0, l1⟩, h0, i0, i1⟩ := Hfc10.out w hw; go_simp; try rfl)⟩) Hb10.out ?_
        go_frame
        refine wpAnyH_take (i := 20) (by simp only [List.getElem?_toArray, List.getElem?_cons_succ, List.getElem?_cons_zero]; rfl) (by kernel_rfl) (by kernel_rfl) (by kernel_rfl) (by intro _ _ _ h; exact h) (Or.inl ⟨by rfl, fun w hw => by (obtain ⟨⟨l0, l1⟩, h0, i0, i1⟩ := Hfc10.out w hw; go_simp; try rfl)⟩) Hb10.out ?_
        go_frame
        try go_frame
        refine wpAnyH_done (by kernel_rfl) ?_ _
        go_wp2_with fail
        go_ret
        exact ⟨by rfl, H9.out.1.trans ((Hw10.out _ Hb10.out).mono H9.out.1.size)⟩
        --B>
      · have hqj : ((j : Int) == 0) = false := by simp; omega
        --<E
        obtain ⟨B0x, hBe⟩ : ∃ B0, B0 = W9.heap.size := ⟨_, rfl⟩
        refine wp_region_held (S := Below B0x W9.drew) rfl ?_
        change wpAnyH _ _ _ _ (Below B0x W9.drew) _ _ _ W9.drew
        obtain ⟨W10, hW10⟩ : ∃ W0, W0 = W9.drew := ⟨_, rfl⟩
        rw [← hW10]
        have hb10 : Below W9.heap.size W9 W10 := by rw [hW10]; exact (Below.refl _ _).drew
        have hB10 : B0x ≤ W10.heap.size := by rw [hBe]; exact hb10.size
        have Hfc10 : Hid (∀ W, Below B0x W10 W → (W.cell? ⟨B, 0, none⟩ = some (.slice aw m cw) ∧ W.cell? ⟨B, 1, none⟩ = some (.slice a n cap)) ∧ W.cell? ⟨D, 0, none⟩ = some (.int .i64 0) ∧ (W.cell? ⟨E, 0, none⟩ = some (.slice aw m cw) ∧ W.cell? ⟨E, 1, none⟩ = some (.slice a j j))) := fun W hb => by
          have hb2 : Below W9.heap.size W9 W := hb10.trans (by rw [hBe] at hb; exact hb)
          exact ⟨⟨(hb2.cell (p := ⟨B, 0, none⟩) (block_lt_of_cell l0)).trans l0, (hb2.cell (p := ⟨B, 1, none⟩) (block_lt_of_cell l1)).trans l1⟩, (hb2.cell (p := ⟨D, 0, none⟩) (block_lt_of_cell h0)).trans h0, (hb2.cell (p := ⟨E, 0, none⟩) (block_lt_of_cell i0)).trans i0, (hb2.cell (p := ⟨E, 1, none⟩) (block_lt_of_cell i1)).trans i1⟩
        have Hw10 : Hid (∀ W', Below B0x W10 W' → Below W9.heap.size W9 W') := fun W hb => hb10.trans (by rw [hBe] at hb; exact hb)
        have Hb10 : Hid (Below B0x W10 W10) := Below.refl _ _
        clear hb10 hW10 hBe l0 l1 h0 h1 h2 i0 i1 x0 x1 x2
        have hjr : in64 ((j : Int) - 1) := by unfold in64; omega
        have hwj : IntKind.i64.wrap ((j : Int) - 1) = (j : Int) - 1 := IntWalk.i64_in _ hjr
        have Hjr := Lib.hid hjr
        clear hjr
        --<E1
        refine wpAnyH_take (i := 0) (by simp only [List.getElem?_toArray, List.getElem?_cons_zero]; rfl) (by kernel_rfl) (by kernel_rfl) (by kernel_rfl) (by intro _ _ _ h; exact h) (Or.inl ⟨by rfl, fun w hw => by (obtain ⟨⟨l0, l1⟩, h0, i0, i1⟩ := Hfc10.out w hw; go_simp; try rfl)⟩) Hb10.out ?_
        refine wpAnyH_take (i := 1) (by simp only [List.getElem?_toArray, List.getElem?_cons_succ, List.getElem?_cons_zero]; rfl) (by kernel_rfl) (by kernel_rfl) (by kernel_rfl) (by intro _ _ _ h; exact h) (Or.inl ⟨by rfl, fun w hw => by (obtain ⟨⟨l0, l1⟩, h0, i0, i1⟩ := Hfc10.out w hw; go_simp; try rfl)⟩) Hb10.out ?_
        go_frame
        refine wpAnyH_take (i := 2) (by simp only [List.getElem?_toArray, List.getElem?_cons_succ, List.getElem?_cons_zero]; rfl) (by kernel_rfl) (by kernel_rfl) (by kernel_rfl) (by intro _ _ _ h; exact h) (Or.inl ⟨by rfl, fun w hw => by (obtain ⟨⟨l0, l1⟩, h0, i0, i1⟩ := Hfc10.out w hw; go_simp; try rfl)⟩) Hb10.out ?_
        refine wpAnyH_take (i := 3) (by simp only [List.getElem?_toArray, List.getElem?_cons_succ, List.getElem?_cons_zero]; rfl) (by kernel_rfl) (by kernel_rfl) (by kernel_rfl) (by intro _ _ _ h; exact h) (Or.inl ⟨by rfl, fun w hw => by (obtain ⟨⟨l0, l1⟩, h0, i0, i1⟩ := Hfc10.out w hw; go_simp; try rfl)⟩) Hb10.out ?_
        go_frame
        refine wpAnyH_take (i := 4) (by simp only [List.getElem?_toArray, List.getElem?_cons_succ, List.getElem?_cons_zero]; rfl) (by kernel_rfl) (by kernel_rfl) (by kernel_rfl) (by intro _ _ _ h; exact h) (Or.inl ⟨by rfl, fun w hw => by (obtain ⟨⟨l0, l1⟩, h0, i0, i1⟩ := Hfc10.out w hw; go_simp; try rfl)⟩) Hb10.out ?_
        refine wpAnyH_take (i := 5) (by simp only [List.getElem?_toArray, List.getElem?_cons_succ, List.getElem?_cons_zero]; rfl) (by kernel_rfl) (by kernel_rfl) (by kernel_rfl) (by intro _ _ _ h; exact h) (Or.inl ⟨by rfl, fun w hw => by (obtain ⟨⟨l0, l1⟩, h0, i0, i1⟩ := Hfc10.out w hw; go_simp; try rfl)⟩) Hb10.out ?_
        go_frame
        refine wpAnyH_take (i := 6) (by simp only [List.getElem?_toArray, List.getElem?_cons_succ, List.getElem?_cons_zero]; rfl) (by kernel_rfl) (by kernel_rfl) (by kernel_rfl) (by intro _ _ _ h; exact h) (Or.inl ⟨by rfl, fun w hw => by (obtain ⟨⟨l0, l1⟩, h0, i0, i1⟩ := Hfc10.out w hw; go_simp; try rfl)⟩) Hb10.out ?_
        refine wpAnyH_take (i := 7) (by simp only [List.getElem?_toArray, List.getElem?_cons_succ, List.getElem?_cons_zero]; rfl) (by kernel_rfl) (by kernel_rfl) (by kernel_rfl) (by intro _ _ _ h; exact h) (Or.inl ⟨by rfl, fun w hw => by (obtain ⟨⟨l0, l1⟩, h0, i0, i1⟩ := Hfc10.out w hw; go_simp; try rfl)⟩) Hb10.out ?_
        go_frame
        --<E2
        refine wpAnyH_take (i := 8) (by simp only [List.getElem?_toArray, List.getElem?_cons_succ, List.getElem?_cons_zero]; rfl) (by kernel_rfl) (by kernel_rfl) (by kernel_rfl) (by intro _ _ _ h; exact h) (Or.inl ⟨by rfl, fun w hw => by (obtain ⟨⟨l0, l1⟩, h0, i0, i1⟩ := Hfc10.out w hw; go_simp; try rfl)⟩) Hb10.out ?_
        refine wpAnyH_take (i := 9) (by simp only [List.getElem?_toArray, List.getElem?_cons_succ, List.getElem?_cons_zero]; rfl) (by kernel_rfl) (by kernel_rfl) (by kernel_rfl) (by intro _ _ _ h; exact h) (Or.inl ⟨by rfl, fun w hw => by (obtain ⟨⟨l0, l1⟩, h0, i0, i1⟩ := Hfc10.out w hw; go_simp; try rfl)⟩) Hb10.out ?_
        go_frame
        refine wpAnyH_take (i := 10) (by simp only [List.getElem?_toArray, List.getElem?_cons_succ, List.getElem?_cons_zero]; rfl) (by kernel_rfl) (by kernel_rfl) (by kernel_rfl) (by intro _ _ _ h; exact h) (Or.inl ⟨by rfl, fun w hw => by (obtain ⟨⟨l0, l1⟩, h0, i0, i1⟩ := Hfc10.out w hw; go_simp; try rfl)⟩) Hb10.out ?_
        refine wpAnyH_take (i := 11) (by simp only [List.getElem?_toArray, List.getElem?_cons_succ, List.getElem?_cons_zero]; rfl) (by kernel_rfl) (by kernel_rfl) (by kernel_rfl) (by intro _ _ _ h; exact h) (Or.inl ⟨by rfl, fun w hw => by (obtain ⟨⟨l0, l1⟩, h0, i0, i1⟩ := Hfc10.out w hw; go_simp; try rfl)⟩) Hb10.out ?_
        go_frame
        --<E3
        refine wpAnyH_take (i := 13) (by simp only [List.getElem?_toArray, List.getElem?_cons_succ, List.getElem?_cons_zero]; rfl) (by kernel_rfl) (by kernel_rfl) (by kernel_rfl) (by intro _ _ _ h; exact h) (Or.inl ⟨by rfl, fun w hw => by (obtain ⟨⟨l0, l1⟩, h0, i0, i1⟩ := Hfc10.out w hw; go_simp; try rfl)⟩) Hb10.out ?_
        go_frame
        refine wpAnyH_take (i := 14) (by simp only [List.getElem?_toArray, List.getElem?_cons_succ, List.getElem?_cons_zero]; rfl) (by kernel_rfl) (by kernel_rfl) (by kernel_rfl) (by intro _ _ _ h; exact h) (Or.inl ⟨by rfl, fun w hw => by (obtain ⟨⟨l0, l1⟩, h0, i0, i1⟩ := Hfc10.out w hw; go_simp; try rfl)⟩) Hb10.out ?_
        refine wpAnyH_take (i := 15) (by simp only [List.getElem?_toArray, List.getElem?_cons_succ, List.getElem?_cons_zero]; rfl) (by kernel_rfl) (by kernel_rfl) (by kernel_rfl) (by intro _ _ _ h; exact h) (Or.inl ⟨by rfl, fun w hw => by (obtain ⟨⟨l0, l1⟩, h0, i0, i1⟩ := Hfc10.out w hw; go_simp; try rfl)⟩) Hb10.out ?_
        go_frame
        refine wpAnyH_take (i := 16) (by simp only [List.getElem?_toArray, List.getElem?_cons_succ, List.getElem?_cons_zero]; rfl) (by kernel_rfl) (by kernel_rfl) (by kernel_rfl) (by intro _ _ _ h; exact h) (Or.inl ⟨by rfl, fun w hw => by (obtain ⟨⟨l0, l1⟩, h0, i0, i1⟩ := Hfc10.out w hw; go_simp; try rfl)⟩) Hb10.out ?_
        go_frame
        --<E4
        refine wpAnyH_ready (rs := [12]) (by kernel_rfl) (by simp) ?_
        refine AllReadyH.cons rfl (fun K hK => ?_) AllReadyH.nil
        go_simp
        refine (rgStraight_any p (.slice aw m cw) (.slice a n cap) vp vb ((j : Int) - 1) params W10 (HP.out.later (H9.out.1.trans ((Hw10.out _ Hb10.out).mono H9.out.1.size))) Hrg.out Hjr.out).mono ?_
        rintro e w11 ⟨rfl, hb11⟩
        have Hb11 : Hid (Below B0x W10 w11) := hb11.mono hB10
        obtain ⟨z, hz⟩ : ∃ z, z = p.straight ((j : Int) - 1) params := ⟨_, rfl⟩
        have Hz := Lib.hid hz
        rw [← hz]
        clear hb11 hz
        refine hK.out _ _ Hb11.out (fun _ => ?_)
        clear hK K
        --<E5
        refine wpAnyH_ready (rs := [17]) (by kernel_rfl) (by simp) ?_
        refine AllReadyH.cons rfl (fun K hK => ?_) AllReadyH.nil
        go_simp
        refine (rgStraight_any (p.first j) (.slice aw m cw) (.slice a j j) vp vb ((j : Int) - 1) params w11 (H9.out.2.later (Hw10.out _ Hb11.out)) (Pg.first_rng Hrg.out j) Hjr.out).mono ?_
        rintro e w12 ⟨rfl, hb12⟩
        have Hb12 : Hid (Below B0x W10 w12) := Hb11.out.trans (hb12.mono (Nat.le_trans hB10 Hb11.out.size))
        rw [Hstr.out rfl params, ← Hz.out]
        clear hb12
        refine hK.out _ _ Hb12.out (fun _ => ?_)
        clear hK K
        --<E6
        cases z
        · skip
          refine wpAnyH_take (i := 18) (by simp only [List.getElem?_toArray, List.getElem?_cons_succ, List.getElem?_cons_zero]; rfl) (by kernel_rfl) (by kernel_rfl) (by kernel_rfl) (by intro _ _ _ h; exact h) (Or.inl ⟨by rfl, fun w hw => by (obtain ⟨⟨l0, l1⟩, h0, i0, i1⟩ := Hfc10.out w hw; go_simp; try rfl)⟩) Hb12.out ?_
          refine wpAnyH_take (i := 19) (by simp only [List.getElem?_toArray, List.getElem?_cons_succ, List.getElem?_cons_zero]; rfl) (by kernel_rfl) (by kernel_rfl) (by kernel_rfl) (by intro _ _ _ h; exact h) (Or.inl ⟨by rfl, fun w hw => by (obtain ⟨⟨l0, l1⟩, h0, i0, i1⟩ := Hfc10.out w hw; go_simp; try rfl)⟩) Hb12.out ?_
          go_frame
          refine wpAnyH_take (i := 20) (by simp only [List.getElem?_toArray, List.getElem?_cons_succ, List.getElem?_cons_zero]; rfl) (by kernel_rfl) (by kernel_rfl) (by kernel_rfl) (by intro _ _ _ h; exact h) (Or.inl ⟨by rfl, fun w hw => by (obtain ⟨⟨l0, l1⟩, h0, i0, i1⟩ := Hfc10.out w hw; go_simp; try rfl)⟩) Hb12.out ?_
          go_frame
          try go_frame
          refine wpAnyH_done (by kernel_rfl) ?_ _
          go_wp2_with fail
          go_ret
          exact ⟨by rfl, H9.out.1.trans ((Hw10.out _ Hb12.out).mono H9.out.1.size)⟩
        · skip
          refine wpAnyH_take (i := 18) (by simp only [List.getElem?_toArray, List.getElem?_cons_succ, List.getElem?_cons_zero]; rfl) (by kernel_rfl) (by kernel_rfl) (by kernel_rfl) (by intro _ _ _ h; exact h) (Or.inl ⟨by rfl, fun w hw => by (obtain ⟨⟨l0, l1⟩, h0, i0, i1⟩ := Hfc10.out w hw; go_simp; try rfl)⟩) Hb12.out ?_
          refine wpAnyH_take (i := 19) (by simp only [List.getElem?_toArray, List.getElem?_cons_succ, List.getElem?_cons_zero]; rfl) (by kernel_rfl) (by kernel_rfl) (by kernel_rfl) (by intro _ _ _ h; exact h) (Or.inl ⟨by rfl, fun w hw => by (obtain ⟨⟨l0, l1⟩, h0, i0, i1⟩ := Hfc10.out w hw; go_simp; try rfl)⟩) Hb12.out ?_
          go_frame
          refine wpAnyH_take (i := 20) (by simp only [List.getElem?_toArray, List.getElem?_cons_succ, List.getElem?_cons_zero]; rfl) (by kernel_rfl) (by kernel_rfl) (by kernel_rfl) (by intro _ _ _ h; exact h) (Or.inl ⟨by rfl, fun w hw => by (obtain ⟨⟨l0, l1⟩, h0, i0, i1⟩ := Hfc10.out w hw; go_simp; try rfl)⟩) Hb12.out ?_
          go_frame
          try go_frame
          refine wpAnyH_done (by kernel_rfl) ?_ _
          go_wp2_with fail
          go_ret
          exact ⟨by rfl, H9.out.1.trans ((Hw10.out _ Hb12.out).mono H9.out.1.size)⟩
        --E6>
        --E5>
        --E4>
        --E3>
        --E2>
        --E1>
        --E>
    · have hq : (ea != 0) = true := by simp [hea]
      have hc := Hcut.out.2 (by rw [← Ht.out]; exact hea)
      rw [← Ht.out, ← Hu8.out] at hc
      by_cases hlt : eb < (j : Int)
      · have hx : (xa, xb, xc) = (ea, eb, ec) := hc.1 hlt
        cases hx
        have hq2 : decide (eb < (j : Int)) = true := decide_eq_true hlt
        clear hc hea hlt
        go_wp2_with fail
        go_ret
        exact ⟨by rfl, H9.out.1⟩
      · have hx : (xa, xb, xc) = (0, 0, 0) := hc.2 (by show (j : Int) ≤ eb; omega)
        cases hx
        have hq2 : decide (eb < (j : Int)) = false := decide_eq_false hlt
        clear hc hea hlt
        --<F
        go_upto_region 13 with (fail)
        obtain ⟨B0x, hBe⟩ : ∃ B0, B0 = W9.heap.size := ⟨_, rfl⟩
        refine wp_region_held (S := Below B0x W9.drew) rfl ?_
        change wpAnyH _ _ _ _ (Below B0x W9.drew) _ _ _ W9.drew
        obtain ⟨W10, hW10⟩ : ∃ W0, W0 = W9.drew := ⟨_, rfl⟩
        rw [← hW10]
        have hb10 : Below W9.heap.size W9 W10 := by rw [hW10]; exact (Below.refl _ _).drew
        have hB10 : B0x ≤ W10.heap.size := by rw [hBe]; exact hb10.size
        have Hfc10 : Hid (∀ W, Below B0x W10 W → (W.cell? ⟨B, 0, none⟩ = some (.slice aw m cw) ∧ W.cell? ⟨B, 1, none⟩ = some (.slice a n cap)) ∧ W.cell? ⟨D, 0, none⟩ = some (.int .i64 ea) ∧ (W.cell? ⟨E, 0, none⟩ = some (.slice aw m cw) ∧ W.cell? ⟨E, 1, none⟩ = some (.slice a j j))) := fun W hb => by
          have hb2 : Below W9.heap.size W9 W := hb10.trans (by rw [hBe] at hb; exact hb)
          exact ⟨⟨(hb2.cell (p := ⟨B, 0, none⟩) (block_lt_of_cell l0)).trans l0, (hb2.cell (p := ⟨B, 1, none⟩) (block_lt_of_cell l1)).trans l1⟩, (hb2.cell (p := ⟨D, 0, none⟩) (block_lt_of_cell h0)).trans h0, (hb2.cell (p := ⟨E, 0, none⟩) (block_lt_of_cell i0)).trans i0, (hb2.cell (p := ⟨E, 1, none⟩) (block_lt_of_cell i1)).trans i1⟩
        have Hw10 : Hid (∀ W', Below B0x W10 W' → Below W9.heap.size W9 W') := fun W hb => hb10.trans (by rw [hBe] at hb; exact hb)
        have Hb10 : Hid (Below B0x W10 W10) := Below.refl _ _
        clear hb10 hW10 hBe l0 l1 h0 h1 h2 i0 i1 x0 x1 x2
        refine wpAnyH_take (i := 0) (by simp only [List.getElem?_toArray, List.getElem?_cons_zero]; rfl) (by kernel_rfl) (by kernel_rfl) (by kernel_rfl) (by intro _ _ _ h; exact h) (Or.inl ⟨by rfl, fun w hw => by (obtain ⟨⟨l0, l1⟩, h0, i0, i1⟩ := Hfc10.out w hw; go_simp; try rfl)⟩) Hb10.out ?_
        refine wpAnyH_take (i := 1) (by simp only [List.getElem?_toArray, List.getElem?_cons_succ, List.getElem?_cons_zero]; rfl) (by kernel_rfl) (by kernel_rfl) (by kernel_rfl) (by intro _ _ _ h; exact h) (Or.inl ⟨by rfl, fun w hw => by (obtain ⟨⟨l0, l1⟩, h0, i0, i1⟩ := Hfc10.out w hw; go_simp; try rfl)⟩) Hb10.out ?_
        go_frame
        refine wpAnyH_take (i := 2) (by simp only [List.getElem?_toArray, List.getElem?_cons_succ, List.getElem?_cons_zero]; rfl) (by kernel_rfl) (by kernel_rfl) (by kernel_rfl) (by intro _ _ _ h; exact h) (Or.inl ⟨by rfl, fun w hw => by (obtain ⟨⟨l0, l1⟩, h0, i0, i1⟩ := Hfc10.out w hw; go_simp; try rfl)⟩) Hb10.out ?_
        refine wpAnyH_take (i := 3) (by simp only [List.getElem?_toArray, List.getElem?_cons_succ, List.getElem?_cons_zero]; rfl) (by kernel_rfl) (by kernel_rfl) (by kernel_rfl) (by intro _ _ _ h; exact h) (Or.inl ⟨by rfl, fun w hw => by (obtain ⟨⟨l0, l1⟩, h0, i0, i1⟩ := Hfc10.out w hw; go_simp; try rfl)⟩) Hb10.out ?_
        go_frame
        refine wpAnyH_take (i := 4) (by simp only [List.getElem?_toArray, List.getElem?_cons_succ, List.getElem?_cons_zero]; rfl) (by kernel_rfl) (by kernel_rfl) (by kernel_rfl) (by intro _ _ _ h; exact h) (Or.inr ⟨by go_simp, rfl⟩) Hb10.out ?_
        refine wpAnyH_take (i := 5) (by simp only [List.getElem?_toArray, List.getElem?_cons_succ, List.getElem?_cons_zero]; rfl) (by kernel_rfl) (by kernel_rfl) (by kernel_rfl) (by intro _ _ _ h; exact h) (Or.inr ⟨by go_simp, rfl⟩) Hb10.out ?_
        try go_frame
        refine wpAnyH_take (i := 6) (by simp only [List.getElem?_toArray, List.getElem?_cons_succ, List.getElem?_cons_zero]; rfl) (by kernel_rfl) (by kernel_rfl) (by kernel_rfl) (by intro _ _ _ h; exact h) (Or.inl ⟨by rfl, fun w hw => by (obtain ⟨⟨l0, l1⟩, h0, i0, i1⟩ := Hfc10.out w hw; go_simp; try rfl)⟩) Hb10.out ?_
        refine wpAnyH_take (i := 7) (by simp only [List.getElem?_toArray, List.getElem?_cons_succ, List.getElem?_cons_zero]; rfl) (by kernel_rfl) (by kernel_rfl) (by kernel_rfl) (by intro _ _ _ h; exact h) (Or.inl ⟨by rfl, fun w hw => by (obtain ⟨⟨l0, l1⟩, h0, i0, i1⟩ := Hfc10.out w hw; go_simp; try rfl)⟩) Hb10.out ?_
        go_frame
        refine wpAnyH_take (i := 8) (by simp only [List.getElem?_toArray, List.getElem?_cons_succ, List.getElem?_cons_zero]; rfl) (by kernel_rfl) (by kernel_rfl) (by kernel_rfl) (by intro _ _ _ h; exact h) (Or.inr ⟨by go_simp, rfl⟩) Hb10.out ?_
        refine wpAnyH_take (i := 9) (by simp only [List.getElem?_toArray, List.getElem?_cons_succ, List.getElem?_cons_zero]; rfl) (by kernel_rfl) (by kernel_rfl) (by kernel_rfl) (by intro _ _ _ h; exact h) (Or.inr ⟨by go_simp, rfl⟩) Hb10.out ?_
        try go_frame
        refine wpAnyH_take (i := 10) (by simp only [List.getElem?_toArray, List.getElem?_cons_succ, List.getElem?_cons_zero]; rfl) (by kernel_rfl) (by kernel_rfl) (by kernel_rfl) (by intro _ _ _ h; exact h) (Or.inr ⟨by go_simp, rfl⟩) Hb10.out ?_
        refine wpAnyH_take (i := 11) (by simp only [List.getElem?_toArray, List.getElem?_cons_succ, List.getElem?_cons_zero]; rfl) (by kernel_rfl) (by kernel_rfl) (by kernel_rfl) (by intro _ _ _ h; exact h) (Or.inr ⟨by go_simp, rfl⟩) Hb10.out ?_
        try go_frame
        refine wpAnyH_take (i := 12) (by simp only [List.getElem?_toArray, List.getElem?_cons_succ, List.getElem?_cons_zero]; rfl) (by kernel_rfl) (by kernel_rfl) (by kernel_rfl) (by intro _ _ _ h; exact h) (Or.inr ⟨by go_simp, rfl⟩) Hb10.out ?_
        refine wpAnyH_take (i := 13) (by simp only [List.getElem?_toArray, List.getElem?_cons_succ, List.getElem?_cons_zero]; rfl) (by kernel_rfl) (by kernel_rfl) (by kernel_rfl) (by intro _ _ _ h; exact h) (Or.inr ⟨by go_simp, rfl⟩) Hb10.out ?_
        try go_frame
        refine wpAnyH_take (i := 14) (by simp only [List.getElem?_toArray, List.getElem?_cons_succ, List.getElem?_cons_zero]; rfl) (by kernel_rfl) (by kernel_rfl) (by kernel_rfl) (by intro _ _ _ h; exact h) (Or.inr ⟨by go_simp, rfl⟩) Hb10.out ?_
        refine wpAnyH_take (i := 15) (by simp only [List.getElem?_toArray, List.getElem?_cons_succ, List.getElem?_cons_zero]; rfl) (by kernel_rfl) (by kernel_rfl) (by kernel_rfl) (by intro _ _ _ h; exact h) (Or.inr ⟨by go_simp, rfl⟩) Hb10.out ?_
        try go_frame
        refine wpAnyH_take (i := 16) (by simp only [List.getElem?_toArray, List.getElem?_cons_succ, List.getElem?_cons_zero]; rfl) (by kernel_rfl) (by kernel_rfl) (by kernel_rfl) (by intro _ _ _ h; exact h) (Or.inr ⟨by go_simp, rfl⟩) Hb10.out ?_
        refine wpAnyH_take (i := 17) (by simp only [List.getElem?_toArray, List.getElem?_cons_succ, List.getElem?_cons_zero]; rfl) (by kernel_rfl) (by kernel_rfl) (by kernel_rfl) (by intro _ _ _ h; exact h) (Or.inr ⟨by go_simp, rfl⟩) Hb10.out ?_
        try go_frame
        refine wpAnyH_take (i := 18) (by simp only [List.getElem?_toArray, List.getElem?_cons_succ, List.getElem?_cons_zero]; rfl) (by kernel_rfl) (by kernel_rfl) (by kernel_rfl) (by intro _ _ _ h; exact h) (Or.inr ⟨by go_simp, rfl⟩) Hb10.out ?_
        try go_frame
        refine wpAnyH_take (i := 19) (by simp only [List.getElem?_toArray, List.getElem?_cons_succ, List.getElem?_cons_zero]; rfl) (by kernel_rfl) (by kernel_rfl) (by kernel_rfl) (by intro _ _ _ h; exact h) (Or.inl ⟨by rfl, fun w hw => by (obtain ⟨⟨l0, l1⟩, h0, i0, i1⟩ := Hfc10.out w hw; go_simp; try rfl)⟩) Hb10.out ?_
        go_frame
        refine wpAnyH_take (i := 20) (by simp only [List.getElem?_toArray, List.getElem?_cons_succ, List.getElem?_cons_zero]; rfl) (by kernel_rfl) (by kernel_rfl) (by kernel_rfl) (by intro _ _ _ h; exact h) (Or.inl ⟨by rfl, fun w hw => by (obtain ⟨⟨l0, l1⟩, h0, i0, i1⟩ := Hfc10.out w hw; go_simp; try rfl)⟩) Hb10.out ?_
        go_frame
        try go_frame
        refine wpAnyH_done (by kernel_rfl) ?_ _
        go_wp2_with fail
        go_ret
        exact ⟨by rfl, H9.out.1.trans ((Hw10.out _ Hb10.out).mono H9.out.1.size)⟩
        --F>
    --A>
  · have hq : (ga != 0) = true := by simp [hg]
    have Heq : Hid (ea = ga ∧ eb = gb ∧ ec = gc) := by
      have h := Pg.rfault_bad (p := p) (by rw [← Hu.out]; exact hg)
      rw [← Ht.out, ← Hu.out] at h
      have h1 := congrArg (fun t => t.1) h
      have h2 := congrArg (fun t => t.2.1) h
      have h3 := congrArg (fun t => t.2.2) h
      exact ⟨h1, h2, h3⟩
    have Hstr : Hid (p.straight k params = false) := by
      show _ = _
      unfold Pg.straight
      rw [← Ht.out, decide_eq_false (p := ea = 0) (by rw [Heq.out.1]; exact hg)]
      rfl
    clear hg
    obtain ⟨rfl, rfl, rfl⟩ := Heq.out
    go_upto_region 5 with (fail)
    obtain ⟨B0x, hBe⟩ : ∃ B0, B0 = w5.heap.size := ⟨_, rfl⟩
    refine wp_region_held (S := Below B0x w5.drew) rfl ?_
    change wpAnyH _ _ _ _ (Below B0x w5.drew) _ _ _ w5.drew
    obtain ⟨W10, hW10⟩ : ∃ W0, W0 = w5.drew := ⟨_, rfl⟩
    rw [← hW10]
    have hb10 : Below w5.heap.size w5 W10 := by rw [hW10]; exact (Below.refl _ _).drew
    have hB10 : B0x ≤ W10.heap.size := by rw [hBe]; exact hb10.size
    have Hfc10 : Hid (∀ W, Below B0x W10 W → W.cell? ⟨B, 0, none⟩ = some (.slice aw m cw) ∧ W.cell? ⟨B, 1, none⟩ = some (.slice a n cap) ∧ W.cell? ⟨D, 0, none⟩ = some (.int .i64 ea) ∧ W.cell? ⟨D, 1, none⟩ = some (.int .i64 eb) ∧ W.cell? ⟨D, 2, none⟩ = some (.int .i64 ec)) := fun W hb => by
      have hb2 : Below w5.heap.size w5 W := hb10.trans (by rw [hBe] at hb; exact hb)
      exact ⟨(hb2.cell (p := ⟨B, 0, none⟩) q5).trans c0, (hb2.cell (p := ⟨B, 1, none⟩) q5).trans c1, (hb2.cell (p := ⟨D, 0, none⟩) q5D).trans f0, (hb2.cell (p := ⟨D, 1, none⟩) q5D).trans f1, (hb2.cell (p := ⟨D, 2, none⟩) q5D).trans f2⟩
    have Hw10 : Hid (∀ W', Below B0x W10 W' → Below W.heap.size W W') := fun W hb => H5.out.1.trans ((hb10.trans (by rw [hBe] at hb; exact hb)).mono H5.out.1.size)
    have Hb10 : Hid (Below B0x W10 W10) := Below.refl _ _
    clear hb10 hW10 hBe c0 c1 f0 f1 f2
    refine wpAnyH_take (i := 0) (by simp only [List.getElem?_toArray, List.getElem?_cons_zero]; rfl) (by kernel_rfl) (by kernel_rfl) (by kernel_rfl) (by intro _ _ _ h; exact h) (Or.inl ⟨by rfl, fun w hw => by (obtain ⟨c0, c1, f0, f1, f2⟩ := Hfc10.out w hw; go_simp; try rfl)⟩) Hb10.out ?_
    refine wpAnyH_take (i := 1) (by simp only [List.getElem?_toArray, List.getElem?_cons_succ, List.getElem?_cons_zero]; rfl) (by kernel_rfl) (by kernel_rfl) (by kernel_rfl) (by intro _ _ _ h; exact h) (Or.inl ⟨by rfl, fun w hw => by (obtain ⟨c0, c1, f0, f1, f2⟩ := Hfc10.out w hw; go_simp; try rfl)⟩) Hb10.out ?_
    go_frame
    refine wpAnyH_ready (rs := [2]) (by kernel_rfl) (by simp) ?_
    refine AllReadyH.cons rfl (fun K hK => ?_) AllReadyH.nil
    go_simp
    refine (ncheck_any p (.slice aw m cw) (.slice a n cap) vp vb W10 (HP.out.later (Hw10.out _ Hb10.out))).mono ?_
    rintro e w11 ⟨rfl, hb11⟩
    rw [← Hu.out]
    unfold fltV
    have Hb11 : Hid (Below B0x W10 w11) := hb11.mono hB10
    clear hb11
    refine hK.out _ _ Hb11.out (fun _ => ?_)
    clear hK K
    refine wpAnyH_take (i := 3) (by simp only [List.getElem?_toArray, List.getElem?_cons_succ, List.getElem?_cons_zero]; rfl) (by kernel_rfl) (by kernel_rfl) (by kernel_rfl) (by intro _ _ _ h; exact h) (Or.inl ⟨by rfl, fun w hw => by (obtain ⟨c0, c1, f0, f1, f2⟩ := Hfc10.out w hw; go_simp; try rfl)⟩) Hb11.out ?_
    go_frame
    refine wpAnyH_take (i := 4) (by simp only [List.getElem?_toArray, List.getElem?_cons_succ, List.getElem?_cons_zero]; rfl) (by kernel_rfl) (by kernel_rfl) (by kernel_rfl) (by intro _ _ _ h; exact h) (Or.inl ⟨by rfl, fun w hw => by (obtain ⟨c0, c1, f0, f1, f2⟩ := Hfc10.out w hw; go_simp; try rfl)⟩) Hb11.out ?_
    refine wpAnyH_take (i := 5) (by simp only [List.getElem?_toArray, List.getElem?_cons_succ, List.getElem?_cons_zero]; rfl) (by kernel_rfl) (by kernel_rfl) (by kernel_rfl) (by intro _ _ _ h; exact h) (Or.inl ⟨by rfl, fun w hw => by (obtain ⟨c0, c1, f0, f1, f2⟩ := Hfc10.out w hw; go_simp; try rfl)⟩) Hb11.out ?_
    go_frame
    refine wpAnyH_take (i := 6) (by simp only [List.getElem?_toArray, List.getElem?_cons_succ, List.getElem?_cons_zero]; rfl) (by kernel_rfl) (by kernel_rfl) (by kernel_rfl) (by intro _ _ _ h; exact h) (Or.inl ⟨by rfl, fun w hw => by (obtain ⟨c0, c1, f0, f1, f2⟩ := Hfc10.out w hw; go_simp; try rfl)⟩) Hb11.out ?_
    refine wpAnyH_take (i := 7) (by simp only [List.getElem?_toArray, List.getElem?_cons_succ, List.getElem?_cons_zero]; rfl) (by kernel_rfl) (by kernel_rfl) (by kernel_rfl) (by intro _ _ _ h; exact h) (Or.inl ⟨by rfl, fun w hw => by (obtain ⟨c0, c1, f0, f1, f2⟩ := Hfc10.out w hw; go_simp; try rfl)⟩) Hb11.out ?_
    go_frame
    refine wpAnyH_ready (rs := [8]) (by kernel_rfl) (by simp) ?_
    refine AllReadyH.cons rfl (fun K hK => ?_) AllReadyH.nil
    go_simp
    refine (rgStraight_any p (.slice aw m cw) (.slice a n cap) vp vb k params w11 (HP.out.later (Hw10.out _ Hb11.out)) Hrg.out Hk.out).mono ?_
    rintro e w12 ⟨rfl, hb12⟩
    rw [Hstr.out]
    have Hb12 : Hid (Below B0x W10 w12) := Hb11.out.trans (hb12.mono (Nat.le_trans hB10 Hb11.out.size))
    clear hb12
    refine hK.out _ _ Hb12.out (fun _ => ?_)
    clear hK K
    refine wpAnyH_take (i := 9) (by simp only [List.getElem?_toArray, List.getElem?_cons_succ, List.getElem?_cons_zero]; rfl) (by kernel_rfl) (by kernel_rfl) (by kernel_rfl) (by intro _ _ _ h; exact h) (Or.inl ⟨by rfl, fun w hw => by (obtain ⟨c0, c1, f0, f1, f2⟩ := Hfc10.out w hw; go_simp; try rfl)⟩) Hb12.out ?_
    go_frame
    refine wpAnyH_take (i := 10) (by simp only [List.getElem?_toArray, List.getElem?_cons_succ, List.getElem?_cons_zero]; rfl) (by kernel_rfl) (by kernel_rfl) (by kernel_rfl) (by intro _ _ _ h; exact h) (Or.inl ⟨by rfl, fun w hw => by (obtain ⟨c0, c1, f0, f1, f2⟩ := Hfc10.out w hw; go_simp; try rfl)⟩) Hb12.out ?_
    refine wpAnyH_take (i := 11) (by simp only [List.getElem?_toArray, List.getElem?_cons_succ, List.getElem?_cons_zero]; rfl) (by kernel_rfl) (by kernel_rfl) (by kernel_rfl) (by intro _ _ _ h; exact h) (Or.inl ⟨by rfl, fun w hw => by (obtain ⟨c0, c1, f0, f1, f2⟩ := Hfc10.out w hw; go_simp; try rfl)⟩) Hb12.out ?_
    go_frame
    try go_frame
    refine wpAnyH_done (by kernel_rfl) ?_ _
    go_wp2_with fail
    go_ret
    exact ⟨by rfl, Hw10.out _ Hb12.out⟩
end Go.Proofs.Ytgcplcffejbniaa
