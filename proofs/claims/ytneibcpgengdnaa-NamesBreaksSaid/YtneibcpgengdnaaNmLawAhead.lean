/- names: the walk of NamesAhead. -/
import Derived.Test.YtneibcpgengdnaaNmAwake
import Derived.Test.YtneibcpgengdnaaNmCut
import Derived.Deep.RegionHeld3
namespace Go.Proofs.Ytneibcpgengdnaa
open Go.RowKit Go.Maps

set_option maxRecDepth 100000 in
/-- A fault's error, read off a value. -/
theorem run_faultE (x y z : Int) (w : World) : (Instr.field 29 (.agg #[.int .i64 x, .int .i64 y, .int .i64 z]) 0).run Try.prog w = .ok (.int .i64 x) w := by kernel_rfl
set_option maxRecDepth 100000 in
set_option maxHeartbeats 4000000 in
theorem lawAhead_any (W : World) (p : Pg) (vw vf : Value) (vp vb : Nat → Value) (k : Int) (h : PgIn W p vw vf vp vb) : Calls Try.prog 6 #[pgV vw vf, .int .i64 k] W (Gives (.bool true) W) := by
  obtain ⟨aw, cw, rfl, -⟩ := h.widen.row.form
  obtain ⟨a, cap, rfl, hc1, hc2⟩ := h.funcs.row.form
  obtain ⟨n, hn⟩ : ∃ n, n = p.funcs.length := ⟨_, rfl⟩
  obtain ⟨m, hm⟩ : ∃ m, m = p.widen.length := ⟨_, rfl⟩
  rw [← hn, ← hm] at h
  rw [← hn, ← hm]
  rw [← hn] at hc1
  have hn62 : cap ≤ 9223372036854775807 := by have : maxLen ≤ 9223372036854775807 := by decide
                                              omega
  have HP := Lib.hid h
  have Hl := Lib.hid (And.intro hm hn)
  obtain ⟨W1, hW1⟩ : ∃ W1, W1 = W.alloc (.cells #[.slice aw m cw, .slice a n cap] 26) := ⟨_, rfl⟩
  obtain ⟨B, hB⟩ : ∃ B, B = W.heap.size := ⟨_, rfl⟩
  have hb1 : Below W.heap.size W W1 := by rw [hW1]; exact (Below.refl _ _).alloc (Nat.le_refl _) _
  have c0 : W1.cell? ⟨B, 0, none⟩ = some (.slice aw m cw) := by rw [hW1, hB]; exact World.cell?_alloc_at _ _ _ _ rfl
  have c1 : W1.cell? ⟨B, 1, none⟩ = some (.slice a n cap) := by rw [hW1, hB]; exact World.cell?_alloc_at _ _ _ _ rfl
  have qB : B < W1.heap.size := by rw [hW1, hB]; simp
  have HW1 := Lib.hid (And.intro hW1 hB)
  have H1 := Lib.hid (And.intro hb1 (And.intro c0 c1))
  unfold pgV
  clear h hn hm hW1 hB hb1 c0 c1
  go_enter Try.func6, Try.ntmps6
  go_upto_region 1 with (fail)
  rw [← HW1.out.1, ← HW1.out.2]
  go_wp2_with fail
  refine (nawake_any W1).mono ?_
  rintro e w2 ⟨rfl, hb2⟩
  have d0 := (hb2.cell (p := ⟨B, 0, none⟩) qB).trans H1.out.2.1
  have d1 := (hb2.cell (p := ⟨B, 1, none⟩) qB).trans H1.out.2.2
  have H2 := Lib.hid (And.intro (H1.out.1.trans (hb2.mono H1.out.1.size)) (And.intro d0 d1))
  have q2 : B < w2.heap.size := Nat.lt_of_lt_of_le qB hb2.size
  clear hb2
  go_wp2_with fail
  refine (ncheck_any p (.slice aw m cw) (.slice a n cap) vp vb w2 (HP.out.later H2.out.1)).mono ?_
  rintro e w3 ⟨rfl, hb3⟩
  obtain ⟨t, ht⟩ : ∃ t, t = p.nfault := ⟨_, rfl⟩
  rw [← ht]
  have Ht := Lib.hid ht
  obtain ⟨ea, eb, ec⟩ := t
  unfold fltV
  obtain ⟨W4, hW4⟩ : ∃ W4, W4 = w3.alloc (.cells #[.int .i64 ea, .int .i64 eb, .int .i64 ec] 29) := ⟨_, rfl⟩
  obtain ⟨D, hD⟩ : ∃ D, D = w3.heap.size := ⟨_, rfl⟩
  have hb4 : Below w3.heap.size w3 W4 := by rw [hW4]; exact (Below.refl _ _).alloc (Nat.le_refl _) _
  have f0 : W4.cell? ⟨D, 0, none⟩ = some (.int .i64 ea) := by rw [hW4, hD]; exact World.cell?_alloc_at _ _ _ _ rfl
  have f1 : W4.cell? ⟨D, 1, none⟩ = some (.int .i64 eb) := by rw [hW4, hD]; exact World.cell?_alloc_at _ _ _ _ rfl
  have f2 : W4.cell? ⟨D, 2, none⟩ = some (.int .i64 ec) := by rw [hW4, hD]; exact World.cell?_alloc_at _ _ _ _ rfl
  have hb24 : Below w2.heap.size w2 W4 := hb3.trans (hb4.mono hb3.size)
  have H4 := Lib.hid (And.intro (H2.out.1.trans (hb24.mono H2.out.1.size)) (And.intro ((hb24.cell (p := ⟨B, 0, none⟩) q2).trans H2.out.2.1) (And.intro ((hb24.cell (p := ⟨B, 1, none⟩) q2).trans H2.out.2.2) (And.intro f0 (And.intro f1 f2)))))
  have q4 : B < W4.heap.size := Nat.lt_of_lt_of_le q2 hb24.size
  have q4D : D < W4.heap.size := by rw [hW4, hD]; simp
  have HW4 := Lib.hid (And.intro hW4 hD)
  clear ht hb3 hb4 hb24 hW4 hD f0 f1 f2 d0 d1
  go_upto_region 4 with (fail)
  rw [← HW4.out.1, ← HW4.out.2]
  obtain ⟨-, c0, c1, f0, f1, f2⟩ := H4.out
  go_wp2_with fail
  refine (check_any p (.slice aw m cw) (.slice a n cap) vp vb W4 (HP.out.later H4.out.1)).mono ?_
  rintro e w5 ⟨rfl, hb5⟩
  have H5 := Lib.hid (And.intro (H4.out.1.trans (hb5.mono H4.out.1.size)) (And.intro ((hb5.cell (p := ⟨B, 0, none⟩) q4).trans c0) (And.intro ((hb5.cell (p := ⟨B, 1, none⟩) q4).trans c1) (And.intro ((hb5.cell (p := ⟨D, 0, none⟩) q4D).trans f0) (And.intro ((hb5.cell (p := ⟨D, 1, none⟩) q4D).trans f1) ((hb5.cell (p := ⟨D, 2, none⟩) q4D).trans f2))))))
  have q5 : B < w5.heap.size := Nat.lt_of_lt_of_le q4 hb5.size
  have q5D : D < w5.heap.size := Nat.lt_of_lt_of_le q4D hb5.size
  obtain ⟨u, hu⟩ : ∃ u, u = p.fault := ⟨_, rfl⟩
  rw [← hu]
  have Hu := Lib.hid hu
  obtain ⟨ga, gb, gc⟩ := u
  unfold fltV
  clear hu hb5 c0 c1 f0 f1 f2
  obtain ⟨-, c0, c1, f0, f1, f2⟩ := H5.out
  have hfe := run_faultE
  by_cases hg : ga = 0
  · subst hg
    go_upto_region 7 with (fail)
    obtain ⟨j, hj⟩ : ∃ j : Nat, (j : Int) = max 0 (min k (n : Int)) := ⟨(max 0 (min k (n : Int))).toNat, by omega⟩
    rw [← hj]
    have hjn : j ≤ n := by omega
    have hjc : j ≤ cap := by omega
    clear hj
    have hq1 := PgIn.first (HP.out.later H5.out.1) (n := j) (by rw [← Hl.out.2]; exact hjn)
    have Hq1 := Lib.hid hq1
    have hcut := Pg.first_nfault (p := p) j (by rw [← Hu.out])
    have Hcut := Lib.hid hcut
    clear hq1 hcut
    obtain ⟨B0, hBe⟩ : ∃ B0, B0 = w5.heap.size := ⟨_, rfl⟩
    refine wp_region_held (S := Below B0 w5.drew) rfl ?_
    change wpAnyH _ _ _ _ (Below B0 w5.drew) _ _ _ w5.drew
    obtain ⟨W0, hW0⟩ : ∃ W0, W0 = w5.drew := ⟨_, rfl⟩
    rw [← hW0]
    have hb0 : Below w5.heap.size w5 W0 := by rw [hW0]; exact (Below.refl _ _).drew
    have hs0 : W0.heap.size = w5.heap.size := by rw [hW0]; rfl
    have hB0 : B0 ≤ W0.heap.size := by omega
    have Hfc : Hid (∀ W, Below B0 W0 W → W.cell? ⟨B, 0, none⟩ = some (.slice aw m cw) ∧ W.cell? ⟨B, 1, none⟩ = some (.slice a n cap)) := fun W hb => by
      have k := fun j => (hb.cell (p := ⟨B, j, none⟩) (by show B < B0; omega)).trans (hb0.cell (p := ⟨B, j, none⟩) q5)
      exact ⟨(k 0).trans c0, (k 1).trans c1⟩
    have Hb : Hid (Below B0 W0 W0) := Below.refl _ _
    obtain ⟨E, hE⟩ : ∃ E, E = W0.heap.size := ⟨_, rfl⟩
    obtain ⟨W7, hW7⟩ : ∃ W7, W7 = W0.alloc (.cells #[.slice aw m cw, .slice a j j] 26) := ⟨_, rfl⟩
    have hb7 : Below W0.heap.size W0 W7 := by rw [hW7]; exact (Below.refl _ _).alloc (Nat.le_refl _) _
    have hb57 : Below w5.heap.size w5 W7 := hb0.trans (hb7.mono (by omega))
    have e0 : W7.cell? ⟨E, 0, none⟩ = some (.slice aw m cw) := by rw [hW7, hE]; exact World.cell?_alloc_at _ _ _ _ rfl
    have e1 : W7.cell? ⟨E, 1, none⟩ = some (.slice a j j) := by rw [hW7, hE]; exact World.cell?_alloc_at _ _ _ _ rfl
    have g0 := (hb57.cell (p := ⟨D, 0, none⟩) q5D).trans f0
    have g1 := (hb57.cell (p := ⟨D, 1, none⟩) q5D).trans f1
    have g2 := (hb57.cell (p := ⟨D, 2, none⟩) q5D).trans f2
    have q7D : D < W7.heap.size := Nat.lt_of_lt_of_le q5D hb57.size
    have H7 := Lib.hid (And.intro (H5.out.1.trans (hb57.mono H5.out.1.size)) (Hq1.out.later hb57))
    have hb07 : Below B0 W0 W7 := hb7.mono hB0
    have HW7 := Lib.hid (And.intro hW7 hE)
    have Hb7 := Lib.hid hb07
    have hjj : (j : Int) ≤ (cap : Int) := by omega
    clear hb0 hs0 hW0 hBe hW7 hE hb7 hb57 c0 c1 f0 f1 f2 hb07
    refine wpAnyH_take (i := 0) (by simp only [List.getElem?_toArray, List.getElem?_cons_zero]; rfl) (by kernel_rfl) (by kernel_rfl) (by kernel_rfl) (by intro _ _ _ h; exact h) (Or.inl ⟨by rfl, fun w hw => by (go_simp; try rfl)⟩) Hb.out ?_
    refine wpAnyH_take (i := 1) (by simp only [List.getElem?_toArray, List.getElem?_cons_succ, List.getElem?_cons_zero]; rfl) (by kernel_rfl) (by kernel_rfl) (by kernel_rfl) (by intro _ _ _ h; exact h) (Or.inl ⟨by rfl, fun w hw => by (obtain ⟨c0, c1⟩ := Hfc.out w hw; go_simp; try rfl)⟩) Hb.out ?_
    go_frame
    refine wpAnyH_take (i := 2) (by simp only [List.getElem?_toArray, List.getElem?_cons_succ, List.getElem?_cons_zero]; rfl) (by kernel_rfl) (by kernel_rfl) (by kernel_rfl) (by intro _ _ _ h; exact h) (Or.inl ⟨by rfl, fun w hw => by (go_simp; try rfl)⟩) Hb.out ?_
    refine wpAnyH_take (i := 3) (by simp only [List.getElem?_toArray, List.getElem?_cons_succ, List.getElem?_cons_zero]; rfl) (by kernel_rfl) (by kernel_rfl) (by kernel_rfl) (by intro _ _ _ h; exact h) (Or.inl ⟨by rfl, fun w hw => by (obtain ⟨c0, c1⟩ := Hfc.out w hw; go_simp; try rfl)⟩) Hb.out ?_
    go_frame
    refine wpAnyH_take (i := 4) (by simp only [List.getElem?_toArray, List.getElem?_cons_succ, List.getElem?_cons_zero]; rfl) (by kernel_rfl) (by kernel_rfl) (by kernel_rfl) (by intro _ _ _ h; exact h) (Or.inl ⟨by rfl, fun w hw => by (go_simp; try rfl)⟩) Hb.out ?_
    refine wpAnyH_take (i := 5) (by simp only [List.getElem?_toArray, List.getElem?_cons_succ, List.getElem?_cons_zero]; rfl) (by kernel_rfl) (by kernel_rfl) (by kernel_rfl) (by intro _ _ _ h; exact h) (Or.inl ⟨by rfl, fun w hw => by (go_simp; try rfl)⟩) Hb.out ?_
    go_frame
    refine wpAnyH_take (i := 6) (by simp only [List.getElem?_toArray, List.getElem?_cons_succ, List.getElem?_cons_zero]; rfl) (by kernel_rfl) (by kernel_rfl) (by kernel_rfl) (by intro _ _ _ h; exact h) (Or.inl ⟨by rfl, fun w hw => by (go_simp; try rfl)⟩) Hb.out ?_
    refine wpAnyH_take (i := 7) (by simp only [List.getElem?_toArray, List.getElem?_cons_succ, List.getElem?_cons_zero]; rfl) (by kernel_rfl) (by kernel_rfl) (by kernel_rfl) (by intro _ _ _ h; exact h) (Or.inl ⟨by rfl, fun w hw => by (go_simp; try rfl)⟩) Hb.out ?_
    go_frame
    refine wpAnyH_ready (rs := [8]) (by kernel_rfl) (by simp) ?_
    refine AllReadyH.cons rfl (fun K hK => ?_) AllReadyH.nil
    go_simp
    refine hK.out _ _ (Hb.out.alloc hB0 _) (fun _ => ?_)
    clear hK K
    refine wpAnyH_ready (rs := [9]) (by kernel_rfl) (by simp) ?_
    refine AllReadyH.cons rfl (fun K hK => ?_) AllReadyH.nil
    go_simp
    rw [← HW7.out.1, ← HW7.out.2]
    refine hK.out _ _ Hb7.out (fun _ => ?_)
    clear hK K
    try go_frame
    refine wpAnyH_done (by kernel_rfl) ?_ _
    go_wp2_with fail
    refine (ncheck_any (p.first j) (.slice aw m cw) (.slice a j j) vp vb W7 H7.out.2).mono ?_
    rintro e w8 ⟨rfl, hb8⟩
    obtain ⟨u, hu⟩ : ∃ u, u = (p.first j).nfault := ⟨_, rfl⟩
    rw [← hu]
    have Hu8 := Lib.hid hu
    obtain ⟨xa, xb, xc⟩ := u
    unfold fltV
    have h0 := (hb8.cell (p := ⟨D, 0, none⟩) q7D).trans g0
    have h1 := (hb8.cell (p := ⟨D, 1, none⟩) q7D).trans g1
    have h2 := (hb8.cell (p := ⟨D, 2, none⟩) q7D).trans g2
    have q8D : D < w8.heap.size := Nat.lt_of_lt_of_le q7D hb8.size
    have H8 := Lib.hid (H7.out.1.trans (hb8.mono H7.out.1.size))
    clear hu hb8 g0 g1 g2 e0 e1
    by_cases hea : ea = 0
    · subst hea
      have hx : (xa, xb, xc) = (0, 0, 0) := Hu8.out.trans (Hcut.out.1 (by rw [← Ht.out]))
      cases hx
      go_wp2_with fail
      go_ret
      exact ⟨by rfl, H8.out.alloc H8.out.size _⟩
    · have hq : (ea != 0) = true := by simp [hea]
      have hq2 : (ea == 0) = false := by simp [hea]
      have hc := Hcut.out.2 (by rw [← Ht.out]; exact hea)
      rw [← Ht.out, ← Hu8.out] at hc
      by_cases hlt : eb < (j : Int)
      · have hx : (xa, xb, xc) = (ea, eb, ec) := hc.1 hlt
        cases hx
        clear hc hea
        go_wp2_with fail
        go_ret
        exact ⟨by rfl, H8.out.alloc H8.out.size _⟩
      · have hx : (xa, xb, xc) = (0, 0, 0) := hc.2 (by show (j : Int) ≤ eb; omega)
        cases hx
        have hlt2 : (j : Int) ≤ eb := by omega
        clear hc hea
        go_wp2_with fail
        go_ret
        exact ⟨by rfl, H8.out.alloc H8.out.size _⟩
  · have hq : (ga != 0) = true := by simp [hg]
    have Heq : Hid (ea = ga ∧ eb = gb ∧ ec = gc) := by
      have h := Pg.nfault_bad (p := p) (by rw [← Hu.out]; exact hg)
      rw [← Ht.out, ← Hu.out] at h
      have h1 := congrArg (fun t => t.1) h
      have h2 := congrArg (fun t => t.2.1) h
      have h3 := congrArg (fun t => t.2.2) h
      exact ⟨h1, h2, h3⟩
    clear hg
    obtain ⟨rfl, rfl, rfl⟩ := Heq.out
    go_wp2_with fail
    obtain ⟨B0, hBe⟩ : ∃ B0, B0 = w5.heap.size := ⟨_, rfl⟩
    refine wp_region_held (S := Below B0 w5.drew) rfl ?_
    change wpAnyH _ _ _ _ (Below B0 w5.drew) _ _ _ w5.drew
    obtain ⟨W0, hW0⟩ : ∃ W0, W0 = w5.drew := ⟨_, rfl⟩
    rw [← hW0]
    have hb0 : Below w5.heap.size w5 W0 := by rw [hW0]; exact (Below.refl _ _).drew
    have hs0 : W0.heap.size = w5.heap.size := by rw [hW0]; rfl
    have hB0 : B0 ≤ W0.heap.size := by omega
    have Hfc : Hid (∀ W, Below B0 W0 W → W.cell? ⟨B, 0, none⟩ = some (.slice aw m cw) ∧ W.cell? ⟨B, 1, none⟩ = some (.slice a n cap) ∧ W.cell? ⟨D, 0, none⟩ = some (.int .i64 ea) ∧ W.cell? ⟨D, 1, none⟩ = some (.int .i64 eb) ∧ W.cell? ⟨D, 2, none⟩ = some (.int .i64 ec)) := fun W hb => by
      have k := fun j => (hb.cell (p := ⟨B, j, none⟩) (by show B < B0; omega)).trans (hb0.cell (p := ⟨B, j, none⟩) q5)
      have kD := fun j => (hb.cell (p := ⟨D, j, none⟩) (by show D < B0; omega)).trans (hb0.cell (p := ⟨D, j, none⟩) q5D)
      exact ⟨(k 0).trans c0, (k 1).trans c1, (kD 0).trans f0, (kD 1).trans f1, (kD 2).trans f2⟩
    have HbW := Lib.hid (H5.out.1.trans (hb0.mono H5.out.1.size))
    have Hb : Hid (Below B0 W0 W0) := Below.refl _ _
    clear hb0 hs0 hW0 hBe c0 c1 f0 f1 f2
    refine wpAnyH_take (i := 0) (by simp only [List.getElem?_toArray, List.getElem?_cons_zero]; rfl) (by kernel_rfl) (by kernel_rfl) (by kernel_rfl) (by intro _ _ _ h; exact h) (Or.inl ⟨by rfl, fun w hw => by (obtain ⟨c0, c1, f0, f1, f2⟩ := Hfc.out w hw; go_simp; try rfl)⟩) Hb.out ?_
    refine wpAnyH_take (i := 1) (by simp only [List.getElem?_toArray, List.getElem?_cons_succ, List.getElem?_cons_zero]; rfl) (by kernel_rfl) (by kernel_rfl) (by kernel_rfl) (by intro _ _ _ h; exact h) (Or.inl ⟨by rfl, fun w hw => by (obtain ⟨c0, c1, f0, f1, f2⟩ := Hfc.out w hw; go_simp; try rfl)⟩) Hb.out ?_
    refine wpAnyH_ready (rs := [2]) (by kernel_rfl) (by simp) ?_
    refine AllReadyH.cons rfl (fun K hK => ?_) AllReadyH.nil
    go_simp
    refine (check_any p (.slice aw m cw) (.slice a n cap) vp vb W0 (HP.out.later HbW.out)).mono ?_
    rintro e w6 ⟨rfl, hb6⟩
    rw [← Hu.out]
    unfold fltV
    have hb06 : Below B0 W0 w6 := hb6.mono hB0
    have H6 := Lib.hid (HbW.out.trans (hb6.mono HbW.out.size))
    clear hb6
    refine hK.out _ _ hb06 (fun _ => ?_)
    clear hK K
    refine wpAnyH_take (i := 3) (by simp only [List.getElem?_toArray, List.getElem?_cons_succ, List.getElem?_cons_zero]; rfl) (by kernel_rfl) (by kernel_rfl) (by kernel_rfl) (by intro _ _ _ h; exact h) (Or.inl ⟨by rfl, fun w hw => by (go_simp; try rfl)⟩) hb06 ?_
    refine wpAnyH_take (i := 4) (by simp only [List.getElem?_toArray, List.getElem?_cons_succ, List.getElem?_cons_zero]; rfl) (by kernel_rfl) (by kernel_rfl) (by kernel_rfl) (by intro _ _ _ h; exact h) (Or.inl ⟨by rfl, fun w hw => by (go_simp; try rfl)⟩) hb06 ?_
    try go_frame
    refine wpAnyH_done (by kernel_rfl) ?_ _
    go_wp2_with fail
    go_ret
    exact ⟨by rfl, H6.out⟩
end Go.Proofs.Ytneibcpgengdnaa
