/- ranges: the walk of RangesKeeps. -/
import Derived.Test.YtgcplcffejbniaaRgAwk
import Derived.Test.YtgcplcffejbniaaRgLift
import Derived.Test.YtgcplcffejbniaaTrBig
import Derived.Test.YtgcplcffejbniaaTrSame
import Derived.Test.YtgcplcffejbniaaTrSpoilP
namespace Go.Proofs.Ytgcplcffejbniaa
open Go.RowKit Go.Maps

set_option maxRecDepth 100000 in
set_option maxHeartbeats 8000000 in
theorem rgLawKeeps_any (W : World) (p : Pg) (vw vf : Value) (vp vb : Nat → Value) (fn : Int) (h : PgIn W p vw vf vp vb) (hz : p.near) (hrg : p.rng) (hk : in64 fn) : Calls Try.prog 7 #[pgV vw vf, .int .i64 fn] W (Gives (.bool true) W) := by
  obtain ⟨aw, cw, rfl, -⟩ := h.widen.row.form
  obtain ⟨a, cap, rfl, hc1, hc2⟩ := h.funcs.row.form
  obtain ⟨n, hn⟩ : ∃ n, n = p.funcs.length := ⟨_, rfl⟩
  obtain ⟨m, hm⟩ : ∃ m, m = p.widen.length := ⟨_, rfl⟩
  have Hlen := Lib.hid (And.intro hm hn)
  rw [← hn, ← hm] at h
  rw [← hn, ← hm]
  have HP := Lib.hid h
  have Hz := Lib.hid hz
  have Hrg := Lib.hid hrg
  have Hk := Lib.hid hk
  obtain ⟨t, ht⟩ : ∃ t, t = p.rfault := ⟨_, rfl⟩
  have Ht := Lib.hid ht
  obtain ⟨ea, eb, ec⟩ := t
  obtain ⟨za, hza⟩ : ∃ z, z = p.straight fn false := ⟨_, rfl⟩
  obtain ⟨zb, hzb⟩ : ∃ z, z = p.straight fn true := ⟨_, rfl⟩
  have HL := Lib.hid (And.intro hza hzb)
  obtain ⟨W1, hW1⟩ : ∃ W1, W1 = W.alloc (.cells #[.slice aw m cw, .slice a n cap] 26) := ⟨_, rfl⟩
  obtain ⟨B, hB⟩ : ∃ B, B = W.heap.size := ⟨_, rfl⟩
  have hb1 : Below W.heap.size W W1 := by rw [hW1]; exact (Below.refl _ _).alloc (Nat.le_refl _) _
  have c0 : W1.cell? ⟨B, 0, none⟩ = some (.slice aw m cw) := by rw [hW1, hB]; exact World.cell?_alloc_at _ _ _ _ rfl
  have c1 : W1.cell? ⟨B, 1, none⟩ = some (.slice a n cap) := by rw [hW1, hB]; exact World.cell?_alloc_at _ _ _ _ rfl
  have qB : B < W1.heap.size := by rw [hW1, hB]; simp
  have HW1 := Lib.hid (And.intro hW1 hB)
  have H1 := Lib.hid (And.intro hb1 (And.intro c0 c1))
  unfold pgV
  clear h hn hm ht hW1 hB hb1 hza hzb hz hrg hk
  go_enter Try.func7, Try.ntmps7
  go_upto_region 1 with (fail)
  rw [← HW1.out.1, ← HW1.out.2]
  go_wp2_with fail
  refine (rgAwake_any W1).mono ?_
  rintro e w2 ⟨rfl, hb2⟩
  have H2 := Lib.hid hb2
  rw [← hb2.cell (p := ⟨B, _, none⟩) qB] at c0 c1
  have q2 := hb2.size
  clear hb2
  go_wp2_with fail
  refine (big_any p (.slice aw m cw) (.slice a n cap) vp vb W HP.out Hz.out w2 (H1.out.1.trans (H2.out.mono H1.out.1.size))).mono ?_
  rintro e w3 ⟨bb, rfl, hsm, hb3⟩
  rw [← hb3.cell (p := ⟨B, _, none⟩) (by show B < _; omega)] at c0 c1
  have H3 := Lib.hid (And.intro (H2.out.trans (hb3.mono q2)) (H1.out.1.trans ((H2.out.trans (hb3.mono q2)).mono H1.out.1.size)))
  have q3 := hb3.size
  have Hsm := Lib.hid hsm
  clear hb3 hsm
  cases bb
  · go_wp2_with fail
    refine (copy_any p (.slice aw m cw) (.slice a n cap) vp vb W HP.out (by first | exact Hsm.out rfl | exact Hsm.out trivial) w3 H3.out.2).mono ?_
    rintro e w4 ⟨v4, rfl, hb4, ho4⟩
    obtain ⟨ow, ocw, of, ocf, hv4⟩ : ∃ ow ocw of ocf, v4 = .agg #[.slice ow m ocw, .slice of n ocf] := by
      obtain ⟨mid, gw, cw, g, cap, vp, vb, q, m0, m1, gp, cp, hv, _⟩ := ho4
      rw [Hlen.out.1, Hlen.out.2]
      exact ⟨_, _, _, _, hv⟩
    subst hv4
    rw [← hb4.cell (p := ⟨B, _, none⟩) (by show B < _; omega)] at c0 c1
    have q4 := hb4.size
    have H4 := Lib.hid (And.intro hb4 ho4)
    obtain ⟨C, hC⟩ : ∃ C, C = w4.heap.size := ⟨_, rfl⟩
    obtain ⟨W5, hW5⟩ : ∃ w : World, w = w4.alloc (.cells #[.slice ow m ocw, .slice of n ocf] 26) := ⟨_, rfl⟩
    have hb5 : Below w4.heap.size w4 W5 := by rw [hW5]; exact (Below.refl _ _).alloc (Nat.le_refl _) _
    have d0 : W5.cell? ⟨C, 0, none⟩ = some (.slice ow m ocw) := by rw [hW5, hC]; exact World.cell?_alloc_at _ _ _ _ rfl
    have d1 : W5.cell? ⟨C, 1, none⟩ = some (.slice of n ocf) := by rw [hW5, hC]; exact World.cell?_alloc_at _ _ _ _ rfl
    have q5 : C < W5.heap.size ∧ w4.heap.size ≤ C ∧ C ≤ w4.heap.size := by rw [hW5, hC]; simp
    have HW5 := Lib.hid (And.intro hW5 hC)
    have H5 := Lib.hid hb5
    have HO : Hid (∃ vp vb, PgIn w4 p (.slice ow m ocw) (.slice of n ocf) vp vb) := by
      obtain ⟨mid, gw, cw, g, cap, vp, vb, q, m0, m1, gp, cp, hv, _, _, ho⟩ := ho4
      have := ho.reads
      unfold pgV at hv
      simp only [Value.agg.injEq, Array.mk.injEq, List.cons.injEq, and_true] at hv
      obtain ⟨h1, h2⟩ := hv
      exact ⟨vp, vb, by rw [h1, h2]; exact this⟩
    clear hb4 ho4 hW5 hC hb5
    go_upto_region 6 with (fail)
    rw [← HW5.out.1, ← HW5.out.2]
    rw [← H5.out.cell (p := ⟨B, _, none⟩) (by show B < _; omega)] at c0 c1
    go_wp2_with fail
    obtain ⟨vp', vb', hO⟩ := HO.out
    have HO' := Lib.hid hO
    clear hO
    refine (rgCheck_any p (.slice ow m ocw) (.slice of n ocf) vp' vb' W5 (HO'.out.later H5.out) Hrg.out).mono ?_
    rintro e w6 ⟨rfl, hb6⟩
    rw [← Ht.out]
    unfold fltV
    rw [← hb6.cell (p := ⟨B, _, none⟩) (by show B < _; omega)] at c0 c1
    rw [← hb6.cell (p := ⟨C, _, none⟩) (by show C < _; omega)] at d0 d1
    obtain ⟨D, hD⟩ : ∃ D, D = w6.heap.size := ⟨_, rfl⟩
    obtain ⟨W7, hW7⟩ : ∃ w : World, w = w6.alloc (.cells #[.int .i64 ea, .int .i64 eb, .int .i64 ec] 29) := ⟨_, rfl⟩
    have hb7 : Below w6.heap.size w6 W7 := by rw [hW7]; exact (Below.refl _ _).alloc (Nat.le_refl _) _
    have f0 : W7.cell? ⟨D, 0, none⟩ = some (.int .i64 ea) := by rw [hW7, hD]; exact World.cell?_alloc_at _ _ _ _ rfl
    have f1 : W7.cell? ⟨D, 1, none⟩ = some (.int .i64 eb) := by rw [hW7, hD]; exact World.cell?_alloc_at _ _ _ _ rfl
    have f2 : W7.cell? ⟨D, 2, none⟩ = some (.int .i64 ec) := by rw [hW7, hD]; exact World.cell?_alloc_at _ _ _ _ rfl
    have q6 := hb6.size
    have q7 : D < W7.heap.size ∧ w6.heap.size ≤ D ∧ D ≤ w6.heap.size := by rw [hW7, hD]; simp
    have HW7 := Lib.hid (And.intro hW7 hD)
    have H7 := Lib.hid (And.intro hb7 (H5.out.trans ((hb6.trans (hb7.mono hb6.size)).mono H5.out.size)))
    clear hW7 hD hb6 hb7
    go_upto_region 7 with (fail)
    rw [← HW7.out.1, ← HW7.out.2]
    rw [← H7.out.1.cell (p := ⟨B, _, none⟩) (by show B < _; omega)] at c0 c1
    rw [← H7.out.1.cell (p := ⟨C, _, none⟩) (by show C < _; omega)] at d0 d1
    obtain ⟨B0, hBe⟩ : ∃ B0, B0 = W7.heap.size := ⟨_, rfl⟩
    have hBD : B < B0 ∧ D < B0 ∧ C < B0 := by omega
    refine wp_region_held (S := Below B0 W7.drew) rfl ?_
    change wpAnyH _ _ _ _ (Below B0 W7.drew) _ _ _ W7.drew
    obtain ⟨W0, hW0⟩ : ∃ W0, W0 = W7.drew := ⟨_, rfl⟩
    rw [← hW0]
    have hb0 : Below W7.heap.size W7 W0 := by rw [hW0]; exact (Below.refl _ _).drew
    have hB0 : B0 ≤ W0.heap.size := by rw [hBe]; exact hb0.size
    have Hfc : Hid (∀ W, Below B0 W0 W → W.cell? ⟨C, 0, none⟩ = some (.slice ow m ocw) ∧ W.cell? ⟨C, 1, none⟩ = some (.slice of n ocf)) := fun W hb => by
      have k := fun q j (h : q < B0) => ((hb0.mono (Nat.le_of_eq hBe)).trans hb).cell (p := ⟨q, j, none⟩) h
      exact ⟨(k _ _ hBD.2.2).trans d0, (k _ _ hBD.2.2).trans d1⟩
    have Hw : Hid (∀ W', Below B0 W0 W' → Below W7.heap.size W7 W') := fun W hb => hb0.trans (by rw [hBe] at hb; exact hb)
    have Hb : Hid (Below B0 W0 W0) := Below.refl _ _
    have hqB0 : W7.heap.size ≤ B0 ∧ B0 ≤ W7.heap.size := by omega
    clear hb0 hW0 hBe
    refine wpAnyH_take (i := 0) (by simp only [List.getElem?_toArray, List.getElem?_cons_zero]; rfl) (by kernel_rfl) (by kernel_rfl) (by kernel_rfl) (by intro _ _ _ h; exact h) (Or.inl ⟨by rfl, fun w hw => by (obtain ⟨e0, e1⟩ := Hfc.out w hw; go_simp; try rfl)⟩) Hb.out ?_
    refine wpAnyH_take (i := 1) (by simp only [List.getElem?_toArray, List.getElem?_cons_succ, List.getElem?_cons_zero]; rfl) (by kernel_rfl) (by kernel_rfl) (by kernel_rfl) (by intro _ _ _ h; exact h) (Or.inl ⟨by rfl, fun w hw => by (obtain ⟨e0, e1⟩ := Hfc.out w hw; go_simp; try rfl)⟩) Hb.out ?_
    go_frame
    refine wpAnyH_take (i := 3) (by simp only [List.getElem?_toArray, List.getElem?_cons_succ, List.getElem?_cons_zero]; rfl) (by kernel_rfl) (by kernel_rfl) (by kernel_rfl) (by intro _ _ _ h; exact h) (Or.inl ⟨by rfl, fun w hw => by (obtain ⟨e0, e1⟩ := Hfc.out w hw; go_simp; try rfl)⟩) Hb.out ?_
    go_frame
    refine wpAnyH_take (i := 4) (by simp only [List.getElem?_toArray, List.getElem?_cons_succ, List.getElem?_cons_zero]; rfl) (by kernel_rfl) (by kernel_rfl) (by kernel_rfl) (by intro _ _ _ h; exact h) (Or.inl ⟨by rfl, fun w hw => by (obtain ⟨e0, e1⟩ := Hfc.out w hw; go_simp; try rfl)⟩) Hb.out ?_
    go_frame
    refine wpAnyH_ready (rs := [2]) (by kernel_rfl) (by simp) ?_
    refine AllReadyH.cons rfl (fun K hK => ?_) AllReadyH.nil
    go_simp
    refine (rgStraight_any p (.slice ow m ocw) (.slice of n ocf) vp' vb' fn false W0 (HO'.out.later (H7.out.2.trans ((Hw.out _ Hb.out).mono H7.out.2.size))) Hrg.out Hk.out).mono ?_
    rintro e w8a ⟨rfl, hb8a⟩
    rw [← HL.out.1]
    have Hb8a : Hid (Below B0 W0 w8a) := hb8a.mono hB0
    clear hb8a
    refine hK.out _ _ Hb8a.out (fun _ => ?_)
    clear hK K
    refine wpAnyH_ready (rs := [5]) (by kernel_rfl) (by simp) ?_
    refine AllReadyH.cons rfl (fun K hK => ?_) AllReadyH.nil
    go_simp
    refine (rgStraight_any p (.slice ow m ocw) (.slice of n ocf) vp' vb' fn true w8a (HO'.out.later (H7.out.2.trans ((Hw.out _ Hb8a.out).mono H7.out.2.size))) Hrg.out Hk.out).mono ?_
    rintro e w8 ⟨rfl, hb8b⟩
    rw [← HL.out.2]
    have Hb8b : Hid (Below B0 W0 w8) := Hb8a.out.trans (hb8b.mono (Nat.le_trans hB0 Hb8a.out.size))
    clear hb8b
    refine hK.out _ _ Hb8b.out (fun _ => ?_)
    clear hK K
    refine wpAnyH_take (i := 6) (by simp only [List.getElem?_toArray, List.getElem?_cons_succ, List.getElem?_cons_zero]; rfl) (by kernel_rfl) (by kernel_rfl) (by kernel_rfl) (by intro _ _ _ h; exact h) (Or.inl ⟨by rfl, fun w hw => by (skip; go_simp; try rfl)⟩) Hb8b.out ?_
    refine wpAnyH_take (i := 7) (by simp only [List.getElem?_toArray, List.getElem?_cons_succ, List.getElem?_cons_zero]; rfl) (by kernel_rfl) (by kernel_rfl) (by kernel_rfl) (by intro _ _ _ h; exact h) (Or.inl ⟨by rfl, fun w hw => by (skip; go_simp; try rfl)⟩) Hb8b.out ?_
    go_frame
    refine wpAnyH_done (by kernel_rfl) ?_ _
    have hb8 := Hw.out _ Hb8b.out
    have H8 := Lib.hid (H7.out.2.trans (hb8.mono H7.out.2.size))
    have q8 := hb8.size
    rw [← hb8.cell (p := ⟨B, _, none⟩) (by show B < _; omega)] at c0 c1
    rw [← hb8.cell (p := ⟨C, _, none⟩) (by show C < _; omega)] at d0 d1
    rw [← hb8.cell (p := ⟨D, _, none⟩) (by show D < _; omega)] at f0 f1 f2
    clear hb8 Hfc Hw Hb Hb8a Hb8b hqB0 hB0 hBD
    have HPw : Hid (PgIn w4 p (.slice aw m cw) (.slice a n cap) vp vb) := HP.out.later (H3.out.2.trans (H4.out.1.mono H3.out.2.size))
    go_wp2_with fail
    refine (same_any p (.slice ow m ocw) (.slice of n ocf) (.slice aw m cw) (.slice a n cap) vp' vb' vp vb w4 HO'.out HPw.out w8 H8.out).mono ?_
    rintro e w9 ⟨rfl, hb9⟩
    have H9 := Lib.hid (H8.out.trans (hb9.mono H8.out.size))
    have q9 := hb9.size
    rw [← hb9.cell (p := ⟨B, _, none⟩) (by show B < _; omega)] at c0 c1
    rw [← hb9.cell (p := ⟨C, _, none⟩) (by show C < _; omega)] at d0 d1
    rw [← hb9.cell (p := ⟨D, _, none⟩) (by show D < _; omega)] at f0 f1 f2
    clear hb9
    go_wp2_with fail
    refine (room_any p _ w3.heap.size w4 H4.out.2 w9 H9.out).mono ?_
    rintro e w10 ⟨rfl, hb10⟩
    have H10 := Lib.hid (H9.out.trans (hb10.mono H9.out.size))
    have q10 := hb10.size
    rw [← hb10.cell (p := ⟨B, _, none⟩) (by show B < _; omega)] at c0 c1
    rw [← hb10.cell (p := ⟨C, _, none⟩) (by show C < _; omega)] at d0 d1
    rw [← hb10.cell (p := ⟨D, _, none⟩) (by show D < _; omega)] at f0 f1 f2
    clear hb10
    go_wp2_with fail
    refine (spoil_any p _ w3.heap.size w4 H4.out.2 w10 H10.out).mono ?_
    rintro e w11 ⟨rfl, hO11⟩
    have q11 := hO11.size
    rw [← hO11.cell (p := ⟨B, _, none⟩) (by show B < _; omega) (by show ¬ In _ _ B; unfold In; omega)] at c0 c1
    rw [← hO11.cell (p := ⟨D, _, none⟩) (by show D < _; omega) (by show ¬ In _ _ D; unfold In; omega)] at f0 f1 f2
    have HW11 : Hid (Below W.heap.size W w11) := (H3.out.2.trans ((H4.out.1.trans (H10.out.mono q4)).mono H3.out.2.size)).trans (hO11.below (by have := H3.out.2.size; omega) fun k h => by have := H3.out.2.size; unfold In at h; omega)
    clear d0 d1 hO11
    go_upto_region 11 with (fail)
    obtain ⟨B0, hBe⟩ : ∃ B0, B0 = w11.heap.size := ⟨_, rfl⟩
    have hBD : B < B0 ∧ D < B0 := by omega
    refine wp_region_held (S := Below B0 w11.drew) rfl ?_
    change wpAnyH _ _ _ _ (Below B0 w11.drew) _ _ _ w11.drew
    obtain ⟨W0, hW0⟩ : ∃ W0, W0 = w11.drew := ⟨_, rfl⟩
    rw [← hW0]
    have hb0 : Below w11.heap.size w11 W0 := by rw [hW0]; exact (Below.refl _ _).drew
    have hB0 : B0 ≤ W0.heap.size := by rw [hBe]; exact hb0.size
    have Hfc : Hid (∀ W, Below B0 W0 W → (W.cell? ⟨B, 0, none⟩ = some (.slice aw m cw) ∧ W.cell? ⟨B, 1, none⟩ = some (.slice a n cap)) ∧ W.cell? ⟨D, 0, none⟩ = some (.int .i64 ea) ∧ W.cell? ⟨D, 1, none⟩ = some (.int .i64 eb) ∧ W.cell? ⟨D, 2, none⟩ = some (.int .i64 ec)) := fun W hb => by
      have k := fun q j (h : q < B0) => ((hb0.mono (Nat.le_of_eq hBe)).trans hb).cell (p := ⟨q, j, none⟩) h
      exact ⟨⟨(k _ _ hBD.1).trans c0, (k _ _ hBD.1).trans c1⟩, (k _ _ hBD.2).trans f0, (k _ _ hBD.2).trans f1, (k _ _ hBD.2).trans f2⟩
    have Hb : Hid (Below B0 W0 W0) := Below.refl _ _
    have H0 : Hid (Below W.heap.size W W0) := HW11.out.trans (hb0.mono HW11.out.size)
    clear hb0 hW0 hBe c0 c1 f0 f1 f2
    refine wpAnyH_take (i := 0) (by simp only [List.getElem?_toArray, List.getElem?_cons_zero]; rfl) (by kernel_rfl) (by kernel_rfl) (by kernel_rfl) (by intro _ _ _ h; exact h) (Or.inl ⟨by rfl, fun w hw => by (obtain ⟨⟨k0, k1⟩, e0, e1, e2⟩ := Hfc.out w hw; go_simp; try rfl)⟩) Hb.out ?_
    refine wpAnyH_take (i := 1) (by simp only [List.getElem?_toArray, List.getElem?_cons_succ, List.getElem?_cons_zero]; rfl) (by kernel_rfl) (by kernel_rfl) (by kernel_rfl) (by intro _ _ _ h; exact h) (Or.inl ⟨by rfl, fun w hw => by (obtain ⟨⟨k0, k1⟩, e0, e1, e2⟩ := Hfc.out w hw; go_simp; try rfl)⟩) Hb.out ?_
    go_frame
    refine wpAnyH_ready (rs := [2]) (by kernel_rfl) (by simp) ?_
    refine AllReadyH.cons rfl (fun K hK => ?_) AllReadyH.nil
    go_simp
    refine (rgCheck_any p (.slice aw m cw) (.slice a n cap) vp vb W0 (HP.out.later H0.out) Hrg.out).mono ?_
    rintro e w12 ⟨rfl, hb12⟩
    rw [← Ht.out]
    unfold fltV
    have Hb12 : Hid (Below B0 W0 w12) := hb12.mono hB0
    have H12 : Hid (Below W.heap.size W w12) := H0.out.trans (hb12.mono H0.out.size)
    clear hb12
    refine hK.out _ _ Hb12.out (fun _ => ?_)
    clear hK K
    refine wpAnyH_take (i := 3) (by simp only [List.getElem?_toArray, List.getElem?_cons_succ, List.getElem?_cons_zero]; rfl) (by kernel_rfl) (by kernel_rfl) (by kernel_rfl) (by intro _ _ _ h; exact h) (Or.inl ⟨by rfl, fun w hw => by (obtain ⟨⟨k0, k1⟩, e0, e1, e2⟩ := Hfc.out w hw; go_simp; try rfl)⟩) Hb12.out ?_
    go_frame
    refine wpAnyH_take (i := 4) (by simp only [List.getElem?_toArray, List.getElem?_cons_succ, List.getElem?_cons_zero]; rfl) (by kernel_rfl) (by kernel_rfl) (by kernel_rfl) (by intro _ _ _ h; exact h) (Or.inl ⟨by rfl, fun w hw => by (obtain ⟨⟨k0, k1⟩, e0, e1, e2⟩ := Hfc.out w hw; go_simp; try rfl)⟩) Hb12.out ?_
    refine wpAnyH_take (i := 5) (by simp only [List.getElem?_toArray, List.getElem?_cons_succ, List.getElem?_cons_zero]; rfl) (by kernel_rfl) (by kernel_rfl) (by kernel_rfl) (by intro _ _ _ h; exact h) (Or.inl ⟨by rfl, fun w hw => by (obtain ⟨⟨k0, k1⟩, e0, e1, e2⟩ := Hfc.out w hw; go_simp; try rfl)⟩) Hb12.out ?_
    go_frame
    refine wpAnyH_take (i := 6) (by simp only [List.getElem?_toArray, List.getElem?_cons_succ, List.getElem?_cons_zero]; rfl) (by kernel_rfl) (by kernel_rfl) (by kernel_rfl) (by intro _ _ _ h; exact h) (Or.inl ⟨by rfl, fun w hw => by (obtain ⟨⟨k0, k1⟩, e0, e1, e2⟩ := Hfc.out w hw; go_simp; try rfl)⟩) Hb12.out ?_
    refine wpAnyH_take (i := 7) (by simp only [List.getElem?_toArray, List.getElem?_cons_succ, List.getElem?_cons_zero]; rfl) (by kernel_rfl) (by kernel_rfl) (by kernel_rfl) (by intro _ _ _ h; exact h) (Or.inl ⟨by rfl, fun w hw => by (obtain ⟨⟨k0, k1⟩, e0, e1, e2⟩ := Hfc.out w hw; go_simp; try rfl)⟩) Hb12.out ?_
    go_frame
    refine wpAnyH_ready (rs := [8]) (by kernel_rfl) (by simp) ?_
    refine AllReadyH.cons rfl (fun K hK => ?_) AllReadyH.nil
    go_simp
    refine (rgStraight_any p (.slice aw m cw) (.slice a n cap) vp vb fn false w12 (HP.out.later H12.out) Hrg.out Hk.out).mono ?_
    rintro e w12b ⟨rfl, hb13⟩
    rw [← HL.out.1]
    have Hb12b : Hid (Below B0 W0 w12b) := Hb12.out.trans (hb13.mono (Nat.le_trans hB0 Hb12.out.size))
    have H12b : Hid (Below W.heap.size W w12b) := H12.out.trans (hb13.mono H12.out.size)
    clear hb13
    refine hK.out _ _ Hb12b.out (fun _ => ?_)
    clear hK K
    refine wpAnyH_take (i := 9) (by simp only [List.getElem?_toArray, List.getElem?_cons_succ, List.getElem?_cons_zero]; rfl) (by kernel_rfl) (by kernel_rfl) (by kernel_rfl) (by intro _ _ _ h; exact h) (Or.inl ⟨by rfl, fun w hw => by (obtain ⟨⟨k0, k1⟩, e0, e1, e2⟩ := Hfc.out w hw; go_simp; try rfl)⟩) Hb12b.out ?_
    go_frame
    refine wpAnyH_take (i := 10) (by simp only [List.getElem?_toArray, List.getElem?_cons_succ, List.getElem?_cons_zero]; rfl) (by kernel_rfl) (by kernel_rfl) (by kernel_rfl) (by intro _ _ _ h; exact h) (Or.inl ⟨by rfl, fun w hw => by (obtain ⟨⟨k0, k1⟩, e0, e1, e2⟩ := Hfc.out w hw; go_simp; try rfl)⟩) Hb12b.out ?_
    refine wpAnyH_take (i := 11) (by simp only [List.getElem?_toArray, List.getElem?_cons_succ, List.getElem?_cons_zero]; rfl) (by kernel_rfl) (by kernel_rfl) (by kernel_rfl) (by intro _ _ _ h; exact h) (Or.inl ⟨by rfl, fun w hw => by (obtain ⟨⟨k0, k1⟩, e0, e1, e2⟩ := Hfc.out w hw; go_simp; try rfl)⟩) Hb12b.out ?_
    go_frame
    refine wpAnyH_take (i := 12) (by simp only [List.getElem?_toArray, List.getElem?_cons_succ, List.getElem?_cons_zero]; rfl) (by kernel_rfl) (by kernel_rfl) (by kernel_rfl) (by intro _ _ _ h; exact h) (Or.inl ⟨by rfl, fun w hw => by (obtain ⟨⟨k0, k1⟩, e0, e1, e2⟩ := Hfc.out w hw; go_simp; try rfl)⟩) Hb12b.out ?_
    refine wpAnyH_take (i := 13) (by simp only [List.getElem?_toArray, List.getElem?_cons_succ, List.getElem?_cons_zero]; rfl) (by kernel_rfl) (by kernel_rfl) (by kernel_rfl) (by intro _ _ _ h; exact h) (Or.inl ⟨by rfl, fun w hw => by (obtain ⟨⟨k0, k1⟩, e0, e1, e2⟩ := Hfc.out w hw; go_simp; try rfl)⟩) Hb12b.out ?_
    go_frame
    refine wpAnyH_take (i := 14) (by simp only [List.getElem?_toArray, List.getElem?_cons_succ, List.getElem?_cons_zero]; rfl) (by kernel_rfl) (by kernel_rfl) (by kernel_rfl) (by intro _ _ _ h; exact h) (Or.inl ⟨by rfl, fun w hw => by (obtain ⟨⟨k0, k1⟩, e0, e1, e2⟩ := Hfc.out w hw; go_simp; try rfl)⟩) Hb12b.out ?_
    go_frame
    refine wpAnyH_ready (rs := [15]) (by kernel_rfl) (by simp) ?_
    refine AllReadyH.cons rfl (fun K hK => ?_) AllReadyH.nil
    go_simp
    refine (rgStraight_any p (.slice aw m cw) (.slice a n cap) vp vb fn true w12b (HP.out.later H12b.out) Hrg.out Hk.out).mono ?_
    rintro e w13 ⟨rfl, hb13⟩
    rw [← HL.out.2]
    have Hb13 : Hid (Below B0 W0 w13) := Hb12b.out.trans (hb13.mono (Nat.le_trans hB0 Hb12b.out.size))
    have H13 : Hid (Below W.heap.size W w13) := H12b.out.trans (hb13.mono H12b.out.size)
    clear hb13
    refine hK.out _ _ Hb13.out (fun _ => ?_)
    clear hK K
    refine wpAnyH_take (i := 16) (by simp only [List.getElem?_toArray, List.getElem?_cons_succ, List.getElem?_cons_zero]; rfl) (by kernel_rfl) (by kernel_rfl) (by kernel_rfl) (by intro _ _ _ h; exact h) (Or.inl ⟨by rfl, fun w hw => by (skip; go_simp; try rfl)⟩) Hb13.out ?_
    refine wpAnyH_take (i := 17) (by simp only [List.getElem?_toArray, List.getElem?_cons_succ, List.getElem?_cons_zero]; rfl) (by kernel_rfl) (by kernel_rfl) (by kernel_rfl) (by intro _ _ _ h; exact h) (Or.inl ⟨by rfl, fun w hw => by (skip; go_simp; try rfl)⟩) Hb13.out ?_
    go_frame
    refine wpAnyH_take (i := 18) (by simp only [List.getElem?_toArray, List.getElem?_cons_succ, List.getElem?_cons_zero]; rfl) (by kernel_rfl) (by kernel_rfl) (by kernel_rfl) (by intro _ _ _ h; exact h) (Or.inl ⟨by rfl, fun w hw => by (skip; go_simp; try rfl)⟩) Hb13.out ?_
    go_frame
    refine wpAnyH_done (by kernel_rfl) ?_ _
    go_wp2_with fail
    go_ret
    exact ⟨by rfl, H13.out⟩
  · go_wp2_with fail
    go_ret
    exact ⟨by rfl, H3.out.2⟩
end Go.Proofs.Ytgcplcffejbniaa
