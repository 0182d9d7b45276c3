/- ranges: the walk of RangesStraight. -/
import Derived.Test.YtgcplcffejbniaaGreatR5Straight
import Derived.Test.YtgcplcffejbniaaGreatRgAwk
import Derived.Test.YtgcplcffejbniaaGreatRgLift
namespace Go.Proofs.YtgcplcffejbniaaGreat
open Go.RowKit Go.Maps

set_option maxRecDepth 100000 in
set_option maxHeartbeats 4000000 in
theorem rgLawStraight_any (W : World) (p : Pg) (vw vf : Value) (vp vb : Nat → Value) (fn : Int) (params : Bool) (h : PgIn W p vw vf vp vb) (_ : p.near) (hrg : p.rng) (hfn : in64 fn) : Calls Tryz.prog 4 #[pgV vw vf, .int .i64 fn, .bool params] W (Gives (.bool true) W) := by
  obtain ⟨aw, cw, rfl, -⟩ := h.widen.row.form
  obtain ⟨a, cap, rfl, hc1, hc2⟩ := h.funcs.row.form
  obtain ⟨n, hn⟩ : ∃ n, n = p.funcs.length := ⟨_, rfl⟩
  obtain ⟨m, hm⟩ : ∃ m, m = p.widen.length := ⟨_, rfl⟩
  rw [← hn, ← hm] at h
  rw [← hn, ← hm]
  have HP := Lib.hid h
  obtain ⟨t, ht⟩ : ∃ t, t = p.straight fn params := ⟨_, rfl⟩
  have Ht := Lib.hid ht
  obtain ⟨W1, hW1⟩ : ∃ W1, W1 = W.alloc (.cells #[.slice aw m cw, .slice a n cap] 25) := ⟨_, rfl⟩
  obtain ⟨B, hB⟩ : ∃ B, B = W.heap.size := ⟨_, rfl⟩
  have hb1 : Below W.heap.size W W1 := by rw [hW1]; exact (Below.refl _ _).alloc (Nat.le_refl _) _
  have c0 : W1.cell? ⟨B, 0, none⟩ = some (.slice aw m cw) := by rw [hW1, hB]; exact World.cell?_alloc_at _ _ _ _ rfl
  have c1 : W1.cell? ⟨B, 1, none⟩ = some (.slice a n cap) := by rw [hW1, hB]; exact World.cell?_alloc_at _ _ _ _ rfl
  have qB : B < W1.heap.size := by rw [hW1, hB]; simp
  have HW1 := Lib.hid (And.intro hW1 hB)
  have H1 := Lib.hid (And.intro hb1 (And.intro c0 c1))
  unfold pgV
  clear h hn hm ht hW1 hB hb1
  go_enter Tryz.func4, Tryz.ntmps4
  go_upto_region 1 with (fail)
  rw [← HW1.out.1, ← HW1.out.2]
  obtain ⟨B0, hBe⟩ : ∃ B0, B0 = W1.heap.size := ⟨_, rfl⟩
  refine wp_region_held (S := Below B0 W1.drew) rfl ?_
  change wpAnyH _ _ _ _ (Below B0 W1.drew) _ _ _ W1.drew
  obtain ⟨W0, hW0⟩ : ∃ W0, W0 = W1.drew := ⟨_, rfl⟩
  rw [← hW0]
  have hb0 : Below W1.heap.size W1 W0 := by rw [hW0]; exact (Below.refl _ _).drew
  have hs0 : W0.heap.size = W1.heap.size := by rw [hW0]; rfl
  have hB0 : B0 ≤ W0.heap.size := by omega
  have Hfc : Hid (∀ W, Below B0 W0 W → W.cell? ⟨B, 0, none⟩ = some (.slice aw m cw) ∧ W.cell? ⟨B, 1, none⟩ = some (.slice a n cap)) := fun W hb => by
    have k := fun j => (hb.cell (p := ⟨B, j, none⟩) (by show B < B0; omega)).trans (hb0.cell (p := ⟨B, j, none⟩) (by show B < _; omega))
    exact ⟨(k 0).trans c0, (k 1).trans c1⟩
  have Hb : Hid (Below B0 W0 W0) := Below.refl _ _
  have H0 := Lib.hid (H1.out.1.trans (hb0.mono H1.out.1.size))
  clear hb0 hs0 hW0 hBe c0 c1
  refine wpAnyH_ready (rs := [0]) (by kernel_rfl) (by simp) ?_
  refine AllReadyH.cons rfl (fun K hK => ?_) AllReadyH.nil
  go_simp
  refine (rgAwake_any W0).mono ?_
  rintro e w2 ⟨rfl, hb2⟩
  have H2 := Lib.hid (And.intro (hb2.mono hB0) (H0.out.trans (hb2.mono H0.out.size)))
  have Hb2 : Hid (Below B0 W0 w2) := H2.out.1
  clear hb2
  refine hK.out _ _ Hb2.out (fun _ => ?_)
  clear hK K
  refine wpAnyH_take (i := 1) (by simp only [List.getElem?_toArray, List.getElem?_cons_succ, List.getElem?_cons_zero]; rfl) (by kernel_rfl) (by kernel_rfl) (by kernel_rfl) (by intro _ _ _ h; exact h) (Or.inl ⟨by rfl, fun w hw => by (obtain ⟨c0, c1⟩ := Hfc.out w hw; go_simp; try rfl)⟩) Hb2.out ?_
  refine wpAnyH_take (i := 2) (by simp only [List.getElem?_toArray, List.getElem?_cons_succ, List.getElem?_cons_zero]; rfl) (by kernel_rfl) (by kernel_rfl) (by kernel_rfl) (by intro _ _ _ h; exact h) (Or.inl ⟨by rfl, fun w hw => by (obtain ⟨c0, c1⟩ := Hfc.out w hw; go_simp; try rfl)⟩) Hb2.out ?_
  go_frame
  refine wpAnyH_take (i := 3) (by simp only [List.getElem?_toArray, List.getElem?_cons_succ, List.getElem?_cons_zero]; rfl) (by kernel_rfl) (by kernel_rfl) (by kernel_rfl) (by intro _ _ _ h; exact h) (Or.inl ⟨by rfl, fun w hw => by (obtain ⟨c0, c1⟩ := Hfc.out w hw; go_simp; try rfl)⟩) Hb2.out ?_
  refine wpAnyH_take (i := 4) (by simp only [List.getElem?_toArray, List.getElem?_cons_succ, List.getElem?_cons_zero]; rfl) (by kernel_rfl) (by kernel_rfl) (by kernel_rfl) (by intro _ _ _ h; exact h) (Or.inl ⟨by rfl, fun w hw => by (obtain ⟨c0, c1⟩ := Hfc.out w hw; go_simp; try rfl)⟩) Hb2.out ?_
  go_frame
  refine wpAnyH_take (i := 6) (by simp only [List.getElem?_toArray, List.getElem?_cons_succ, List.getElem?_cons_zero]; rfl) (by kernel_rfl) (by kernel_rfl) (by kernel_rfl) (by intro _ _ _ h; exact h) (Or.inl ⟨by rfl, fun w hw => by (obtain ⟨c0, c1⟩ := Hfc.out w hw; go_simp; try rfl)⟩) Hb2.out ?_
  refine wpAnyH_take (i := 7) (by simp only [List.getElem?_toArray, List.getElem?_cons_succ, List.getElem?_cons_zero]; rfl) (by kernel_rfl) (by kernel_rfl) (by kernel_rfl) (by intro _ _ _ h; exact h) (Or.inl ⟨by rfl, fun w hw => by (obtain ⟨c0, c1⟩ := Hfc.out w hw; go_simp; try rfl)⟩) Hb2.out ?_
  go_frame
  refine wpAnyH_take (i := 8) (by simp only [List.getElem?_toArray, List.getElem?_cons_succ, List.getElem?_cons_zero]; rfl) (by kernel_rfl) (by kernel_rfl) (by kernel_rfl) (by intro _ _ _ h; exact h) (Or.inl ⟨by rfl, fun w hw => by (obtain ⟨c0, c1⟩ := Hfc.out w hw; go_simp; try rfl)⟩) Hb2.out ?_
  go_frame
  refine wpAnyH_ready (rs := [5]) (by kernel_rfl) (by simp) ?_
  refine AllReadyH.cons rfl (fun K hK => ?_) AllReadyH.nil
  go_simp
  refine (rgStraight_any p (.slice aw m cw) (.slice a n cap) vp vb fn params w2 (HP.out.later H2.out.2) hrg hfn).mono ?_
  rintro e w3 ⟨rfl, hb3⟩
  rw [← Ht.out]
  have H3 := Lib.hid (And.intro (H2.out.1.trans (hb3.mono (Nat.le_trans hB0 H2.out.1.size))) (H2.out.2.trans (hb3.mono H2.out.2.size)))
  have Hb3 : Hid (Below B0 W0 w3) := H3.out.1
  clear hb3
  refine hK.out _ _ Hb3.out (fun _ => ?_)
  clear hK K
  refine wpAnyH_ready (rs := [9]) (by kernel_rfl) (by simp) ?_
  refine AllReadyH.cons rfl (fun K hK => ?_) AllReadyH.nil
  go_simp
  refine (r5straight_any p (.slice aw m cw) (.slice a n cap) vp vb fn params w3 (HP.out.later H3.out.2) hfn).mono ?_
  rintro e w4 ⟨rfl, hb4⟩
  rw [← Ht.out]
  have H4 := Lib.hid (And.intro (H3.out.1.trans (hb4.mono (Nat.le_trans hB0 H3.out.1.size))) (H3.out.2.trans (hb4.mono H3.out.2.size)))
  have Hb4 : Hid (Below B0 W0 w4) := H4.out.1
  clear hb4
  refine hK.out _ _ Hb4.out (fun _ => ?_)
  clear hK K
  refine wpAnyH_take (i := 10) (by simp only [List.getElem?_toArray, List.getElem?_cons_succ, List.getElem?_cons_zero]; rfl) (by kernel_rfl) (by kernel_rfl) (by kernel_rfl) (by intro _ _ _ h; exact h) (Or.inl ⟨by rfl, fun w hw => by (go_simp; try rfl)⟩) Hb4.out ?_
  refine wpAnyH_take (i := 11) (by simp only [List.getElem?_toArray, List.getElem?_cons_succ, List.getElem?_cons_zero]; rfl) (by kernel_rfl) (by kernel_rfl) (by kernel_rfl) (by intro _ _ _ h; exact h) (Or.inl ⟨by rfl, fun w hw => by (go_simp; try rfl)⟩) Hb4.out ?_
  refine wpAnyH_take (i := 12) (by simp only [List.getElem?_toArray, List.getElem?_cons_succ, List.getElem?_cons_zero]; rfl) (by kernel_rfl) (by kernel_rfl) (by kernel_rfl) (by intro _ _ _ h; exact h) (Or.inl ⟨by rfl, fun w hw => by (go_simp; try rfl)⟩) Hb4.out ?_
  try go_frame
  refine wpAnyH_done (by kernel_rfl) ?_ _
  go_wp2_with fail
  go_ret
  exact ⟨by rfl, H4.out.2⟩
end Go.Proofs.YtgcplcffejbniaaGreat
