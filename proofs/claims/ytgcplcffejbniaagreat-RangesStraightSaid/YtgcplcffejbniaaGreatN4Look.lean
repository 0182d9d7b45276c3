/- R4's look at a function. -/
import Derived.Test.YtgcplcffejbniaaGreatN4List
import Derived.Deep.RegionHeld3
namespace Go.Proofs.YtgcplcffejbniaaGreat
open Go.RowKit Go.Maps

theorem CkAt.oth4 {T : Nat → Prop} {w w' : World} {B : Nat} {vw vf : Value} (h : CkAt w B vw vf) (hO : Oth T w w') (h1 : ¬ T B) (h2 : ¬ T (B + 1)) : CkAt w' B vw vf :=
  have q1 := block_lt_of_cell h.c0
  have q2 := block_lt_of_cell h.r0
  ⟨(hO.cell (p := ⟨B, 0, none⟩) q1 h1).trans h.c0, (hO.cell (p := ⟨B, 1, none⟩) q1 h1).trans h.c1, (hO.cell (p := ⟨B + 1, 0, none⟩) q2 h2).trans h.r0, (hO.cell (p := ⟨B + 1, 1, none⟩) q2 h2).trans h.r1, (hO.cell (p := ⟨B + 1, 2, none⟩) q2 h2).trans h.r2,
    (hO.frozen (p := ⟨B + 1, 0, none⟩) q2 h2).trans h.z0, (hO.frozen (p := ⟨B + 1, 1, none⟩) q2 h2).trans h.z1, (hO.frozen (p := ⟨B + 1, 2, none⟩) q2 h2).trans h.z2⟩
/-- What a look at function k leaves. -/
def LookPost (W W' : World) (E : Ending) (f : Fn) (G : List ByteArray) (k N : Nat) (vw vf : Value) : Prop :=
  ∃ (c bs : Nat) (kv : Value) (K : Known) (n loops e : Int) (C : List Int), E = .returned (.tuple #[ptrV c, fltV (f.nfault G k)]) ∧ Below W.heap.size W W' ∧ (c < W'.heap.size) ∧
    ((f.nfault G k).1 = 0 → RAt W' c bs vw vf kv K (k : Int) n loops e N C ∧ ∀ z, z ∈ C ↔ idxs G (St.ncallss f.body) z)
set_option maxRecDepth 100000 in
set_option maxHeartbeats 8000000 in
theorem r4look_any (p : Pg) (vw vf : Value) (vp vb : Nat → Value) (k : Nat) (f : Fn) (W : World) (h : PgIn W p vw vf vp vb) (hx : p.funcs[k]? = some f) (hone : (gAt p.funcs k).Nodup) (hfew : p.funcs.length ≤ 32) (hg : f.Good) :
    Calls Tryz.prog 28 #[pgV vw vf, .int .i64 (k : Int)] W (fun E W' => LookPost W W' E f (gAt p.funcs k) k p.funcs.length vw vf) := by
  have hctx : R4Ctx W p.funcs vf vp vb k := ⟨h.funcs, (List.getElem?_eq_some_iff.1 hx).1, hfew, hone⟩
  have HP := Lib.hid h
  obtain ⟨hw, hr, hpp, hbb⟩ := h
  obtain ⟨aw, cw, rfl, hwc, hwc2⟩ := hw.row.form
  obtain ⟨a, cap, rfl, hncap, hcap⟩ := hr.form
  obtain ⟨N, hN⟩ : ∃ n, n = p.funcs.length := ⟨_, rfl⟩
  obtain ⟨m, hm⟩ : ∃ m, m = p.widen.length := ⟨_, rfl⟩
  have hN32 : N ≤ 32 := by omega
  have hkN : k < N := by rw [hN]; exact hctx.at_
  have hn62 : cap ≤ 9223372036854775807 := by have : maxLen ≤ 9223372036854775807 := by decide
                                              omega
  have Hl := Lib.hid (And.intro hm hN)
  have Hrow : Hid (RowOf W (.slice a N cap) p.funcs.length 3 (fun b o i => ∀ x, p.funcs[i]? = some x → FnCells W b o x (vp i) (vb i))) := by rw [hN]; exact hr
  have hrow := hpp k f hx
  have hsts := hbb k f hx
  rw [← hN, ← hm] at HP
  rw [← hN] at hctx
  rw [← hN, ← hm]
  rw [← hN] at hncap
  have hlist := r4list_any p.funcs (.slice a N cap) vp vb k _ _ W hctx hsts
  obtain ⟨ap, cp, hvp, hpc1, hpc2⟩ := hrow.form
  obtain ⟨ab, cb, hvb, -⟩ := hsts.form
  obtain ⟨np, hnp⟩ : ∃ n, n = f.params.length := ⟨_, rfl⟩
  obtain ⟨nb, hnb⟩ : ∃ n, n = f.body.length := ⟨_, rfl⟩
  rw [hvb, ← hnb] at hlist
  have Hrp : Hid (RowOf W (.slice ap np cp) f.params.length 3 (fun b o k => ∀ y, f.params[k]? = some y → PmAt W b o y)) := by rw [hvp, ← hnp] at hrow; rw [← hnp]; exact hrow
  have HX := Lib.hid (And.intro hx (And.intro hlist (And.intro hnp (And.intro hvp (And.intro hvb hnb)))))
  have Hg := Lib.hid hg
  have Hone := Lib.hid hone
  have hnp8 : np ≤ 8 := by rw [hnp]; exact hg.few
  obtain ⟨G, hG⟩ : ∃ G, G = gAt p.funcs k := ⟨_, rfl⟩
  rw [← hG]
  have HG : Hid (G = gAt p.funcs k ∧ G.length = k) := ⟨hG, by rw [hG]; exact gAt_length (by omega)⟩
  obtain ⟨W1, hW1⟩ : ∃ W1, W1 = (W.alloc (.cells #[.slice aw m cw, .slice a N cap] 25)).alloc (.cells #[.int .i64 0, .int .i64 0, .int .i64 0] 29) := ⟨_, rfl⟩
  have hs1 : W1.heap.size = W.heap.size + 2 := by rw [hW1]; simp
  have hb1 : Below W.heap.size W W1 := by rw [hW1]; exact ((Below.refl _ _).alloc (Nat.le_refl _) _).alloc (by (try simp only [World.size_alloc]); (try simp only [size_set]); omega) _
  have hk1 : CkAt W1 W.heap.size (.slice aw m cw) (.slice a N cap) := by
    have q : (W.alloc (.cells #[.slice aw m cw, .slice a N cap] 25)).heap.size = W.heap.size + 1 := by simp
    have k : ∀ j, (((W.alloc (.cells #[.slice aw m cw, .slice a N cap] 25)).alloc (.cells #[.int .i64 0, .int .i64 0, .int .i64 0] 29)).cell? ⟨W.heap.size, j, none⟩) = (W.alloc (.cells #[.slice aw m cw, .slice a N cap] 25)).cell? ⟨W.heap.size, j, none⟩ :=
      fun j => ((Below.refl _ _).alloc (Nat.le_refl _) _).cell (p := ⟨W.heap.size, j, none⟩) (by show W.heap.size < _; omega)
    rw [hW1]
    exact ⟨(k 0).trans (World.cell?_alloc_at _ _ _ _ rfl), (k 1).trans (World.cell?_alloc_at _ _ _ _ rfl), World.cell?_alloc_at _ _ _ _ (by rw [q]), World.cell?_alloc_at _ _ _ _ (by rw [q]), World.cell?_alloc_at _ _ _ _ (by rw [q]),
      World.frozen?_alloc_at _ _ _ _ (by rw [q]), World.frozen?_alloc_at _ _ _ _ (by rw [q]), World.frozen?_alloc_at _ _ _ _ (by rw [q])⟩
  have HW1 := Lib.hid hW1
  obtain ⟨B, hB⟩ : ∃ B, B = W.heap.size := ⟨_, rfl⟩
  have hBW : W.heap.size ≤ B := by omega
  have HB := Lib.hid hB
  rw [← hB] at hk1
  have H1 := Lib.hid (And.intro hb1 hk1)
  have q1 : B + 1 < W1.heap.size := by omega
  unfold pgV
  clear hw hr hpp hbb hN hm hx hone hfew hg hctx hrow hsts hlist hvp hvb hnp hnb hG hW1 hs1 hb1 hB
  go_enter Tryz.func28, Tryz.ntmps28
  go_upto_region 1 with (fail)
  rw [← HW1.out, ← HB.out]
  obtain ⟨c0, c1, r0, r1, r2, z0, z1, z2⟩ := hk1
  obtain ⟨B0, hBe⟩ : ∃ B0, B0 = W1.heap.size := ⟨_, rfl⟩
  refine wp_region_held (S := Below B0 W1.drew) rfl ?_
  change wpAnyH _ _ _ _ (Below B0 W1.drew) _ _ _ W1.drew
  obtain ⟨W0, hW0⟩ : ∃ W0, W0 = W1.drew := ⟨_, rfl⟩
  rw [← hW0]
  have hb0 : Below W1.heap.size W1 W0 := by rw [hW0]; exact (Below.refl _ _).drew
  have hs0 : W0.heap.size = W1.heap.size := by rw [hW0]; rfl
  have hB0 : B0 ≤ W0.heap.size := by omega
  have Hfc : Hid (∀ W, Below B0 W0 W → W.cell? ⟨B, 0, none⟩ = some (.slice aw m cw) ∧ W.cell? ⟨B, 1, none⟩ = some (.slice a N cap)) := fun W hb => by
    have k := fun j => (hb.cell (p := ⟨B, j, none⟩) (by show B < B0; omega)).trans (hb0.cell (p := ⟨B, j, none⟩) (by show B < _; omega))
    exact ⟨(k 0).trans c0, (k 1).trans c1⟩
  have Hb : Hid (Below B0 W0 W0) := Below.refl _ _
  have H0 := Lib.hid (And.intro hb0 hs0)
  clear hb0 hs0 hW0 hBe c0 c1 r0 r1 r2 z0 z1 z2
  refine wpAnyH_take (i := 0) (by simp only [List.getElem?_toArray, List.getElem?_cons_zero]; rfl) (by kernel_rfl) (by kernel_rfl) (by kernel_rfl) (by intro _ _ _ h; exact h) (Or.inl ⟨by rfl, fun w hw => by (obtain ⟨c0, c1⟩ := Hfc.out w hw; go_simp; try rfl)⟩) Hb.out ?_
  refine wpAnyH_take (i := 1) (by simp only [List.getElem?_toArray, List.getElem?_cons_succ, List.getElem?_cons_zero]; rfl) (by kernel_rfl) (by kernel_rfl) (by kernel_rfl) (by intro _ _ _ h; exact h) (Or.inl ⟨by rfl, fun w hw => by (go_simp; try rfl)⟩) Hb.out ?_
  go_frame
  refine wpAnyH_take (i := 2) (by simp only [List.getElem?_toArray, List.getElem?_cons_succ, List.getElem?_cons_zero]; rfl) (by kernel_rfl) (by kernel_rfl) (by kernel_rfl) (by intro _ _ _ h; exact h) (Or.inl ⟨by rfl, fun w hw => by (go_simp; try rfl)⟩) Hb.out ?_
  refine wpAnyH_take (i := 3) (by simp only [List.getElem?_toArray, List.getElem?_cons_succ, List.getElem?_cons_zero]; rfl) (by kernel_rfl) (by kernel_rfl) (by kernel_rfl) (by intro _ _ _ h; exact h) (Or.inl ⟨by rfl, fun w hw => by (obtain ⟨c0, c1⟩ := Hfc.out w hw; go_simp; try rfl)⟩) Hb.out ?_
  go_frame
  refine wpAnyH_take (i := 4) (by simp only [List.getElem?_toArray, List.getElem?_cons_succ, List.getElem?_cons_zero]; rfl) (by kernel_rfl) (by kernel_rfl) (by kernel_rfl) (by intro _ _ _ h; exact h) (Or.inl ⟨by rfl, fun w hw => by (go_simp; try rfl)⟩) Hb.out ?_
  go_frame
  refine wpAnyH_ready (rs := [5]) (by kernel_rfl) (by simp) ?_
  refine AllReadyH.cons rfl (fun K hK => ?_) AllReadyH.nil
  have hmk := make_bools_run N (by omega) W0
  go_simp
  refine hK.out _ _ (Hb.out.alloc hB0 _) (fun _ => ?_)
  clear hK K hmk
  obtain ⟨Wa, hWa⟩ : ∃ Wa, Wa = W0.alloc (.cells (zeroBools N) 4) := ⟨_, rfl⟩
  obtain ⟨bs, hbs⟩ : ∃ b, b = W0.heap.size := ⟨_, rfl⟩
  have hba : Below W0.heap.size W0 Wa := by rw [hWa]; exact (Below.refl _ _).alloc (Nat.le_refl _) _
  have hza : Wa.heap.size = bs + 1 := by rw [hWa, hbs]; simp
  obtain ⟨Wb, hWb⟩ : ∃ Wb, Wb = Wa.alloc (.cells #[.slice aw m cw, .slice a N cap, .int .i64 (k : Int), .int .i64 0, .int .i64 0, .slice none 0 0, .int .i64 0, .slice (some ⟨bs, 0, none⟩) N N] 83) := ⟨_, rfl⟩
  obtain ⟨c, hc⟩ : ∃ c, c = Wa.heap.size := ⟨_, rfl⟩
  have hbb : Below Wa.heap.size Wa Wb := by rw [hWb]; exact (Below.refl _ _).alloc (Nat.le_refl _) _
  have hzb : Wb.heap.size = c + 1 := by rw [hWb, hc]; simp
  have hk : RAt Wb c bs (.slice aw m cw) (.slice a N cap) (.slice none 0 0) [] (k : Int) 0 0 0 N [] := by
    have kc : ∀ j v, (#[.slice aw m cw, .slice a N cap, .int .i64 (k : Int), .int .i64 0, .int .i64 0, .slice none 0 0, .int .i64 0, .slice (some ⟨bs, 0, none⟩) N N] : Array Value)[j]? = some v → Wb.cell? ⟨c, j, none⟩ = some v := fun j v hj => by rw [hWb, World.cell?_alloc_at _ _ _ _ hc]; exact hj
    refine ⟨kc 0 _ rfl, kc 1 _ rfl, kc 2 _ rfl, kc 3 _ rfl, kc 4 _ rfl, kc 5 _ rfl, kc 6 _ rfl, kc 7 _ rfl, fun j _ => by rw [hWb]; exact World.frozen?_alloc_at _ _ _ _ hc, ⟨by simp [varVs], .inl ⟨rfl, rfl⟩⟩, by simp, fun i hi => ⟨?_, ?_⟩, by omega⟩
    · refine (hbb.cell (p := ⟨bs, i, none⟩) (by show bs < _; omega)).trans ?_
      rw [hWa, World.cell?_alloc_at _ _ _ _ hbs]
      simp [zeroBools, boolVs, hi]
    · refine (hbb.frozen (p := ⟨bs, i, none⟩) (by show bs < _; omega)).trans ?_
      rw [hWa]; exact World.frozen?_alloc_at _ _ _ _ hbs
  have hb0b : Below W0.heap.size W0 Wb := hba.trans (hbb.mono (by omega))
  have HWa := Lib.hid (And.intro hWa hbs)
  have HWb := Lib.hid (And.intro hWb hc)
  have Hba : Hid (Below B0 W0 Wa) := hba.mono hB0
  have Hbb : Hid (Below B0 W0 Wb) := hb0b.mono hB0
  have h1b : Below W1.heap.size W1 Wb := H0.out.1.trans (hb0b.mono (by have := H0.out.2; omega))
  have Hk := Lib.hid (And.intro hk h1b)
  have qb1 : W1.heap.size ≤ bs := by have := H0.out.2; omega
  have qb2 : bs < c := by omega
  have qb3 : c < Wb.heap.size := by omega
  clear hWa hbs hba hza hWb hc hbb hzb hk hb0b h1b
  rw [← HWa.out.1, ← HWa.out.2]
  have Hb' := Hba
  refine wpAnyH_take (i := 6) (by simp only [List.getElem?_toArray, List.getElem?_cons_succ, List.getElem?_cons_zero]; rfl) (by kernel_rfl) (by kernel_rfl) (by kernel_rfl) (by intro _ _ _ h; exact h) (Or.inl ⟨by rfl, fun w hw => by (go_simp; try rfl)⟩) Hba.out ?_
  go_frame
  refine wpAnyH_ready (rs := [7]) (by kernel_rfl) (by simp) ?_
  refine AllReadyH.cons rfl (fun K hK => ?_) AllReadyH.nil
  go_simp
  rw [← HWb.out.1, ← HWb.out.2]
  refine hK.out _ _ Hbb.out (fun _ => ?_)
  clear hK K
  refine wpAnyH_take (i := 8) (by simp only [List.getElem?_toArray, List.getElem?_cons_succ, List.getElem?_cons_zero]; rfl) (by kernel_rfl) (by kernel_rfl) (by kernel_rfl) (by intro _ _ _ h; exact h) (Or.inl ⟨by rfl, fun w hw => by (go_simp; try rfl)⟩) Hbb.out ?_
  go_frame
  refine wpAnyH_done (by kernel_rfl) ?_ _
  have hbW : Below W.heap.size W Wb := H1.out.1.trans (Hk.out.2.mono H1.out.1.size)
  have hkb := H1.out.2.later Hk.out.2
  obtain ⟨b, off, rfl, hb, hP⟩ := Hrow.out.at (i := k) (by rw [← Hl.out.2]; exact hkN)
  obtain ⟨i0, i1, i2⟩ := (hP f HX.out.1).later hbW hb
  rw [HX.out.2.2.2.1, ← HX.out.2.2.1] at i1
  rw [HX.out.2.2.2.2.1, ← HX.out.2.2.2.2.2] at i2
  obtain ⟨W6, hW6⟩ : ∃ W6, W6 = Wb.alloc (.cells #[.string f.name, .slice ap np cp, .slice ab nb cb] 45) := ⟨_, rfl⟩
  obtain ⟨D, hD⟩ : ∃ D, D = Wb.heap.size := ⟨_, rfl⟩
  have hb6 : Below Wb.heap.size Wb W6 := by rw [hW6]; exact (Below.refl _ _).alloc (Nat.le_refl _) _
  have hfc6 : FnCells W6 D 0 f (.slice ap np cp) (.slice ab nb cb) := by rw [hW6, hD]; constructor <;> exact World.cell?_alloc_at _ _ _ _ rfl
  have hk6 := Hk.out.1.later hb6
  have hck6 := hkb.later hb6
  have hbW6 : Below W.heap.size W W6 := hbW.trans (hb6.mono hbW.size)
  have q6 : D < W6.heap.size := by rw [hW6, hD]; simp
  have qcD : c < D := by omega
  have HK6 := Lib.hid (And.intro hk6 (And.intro hck6 (And.intro hbW6 hfc6)))
  have HW6 := Lib.hid (And.intro hW6 hD)
  have HP0 := Lib.hid hP
  have HckB := Lib.hid hkb
  obtain ⟨c0, c1, -, -, -, -, -, -⟩ := hkb
  clear hW6 hD hb6 hfc6 hk6 hck6 hP hbW
  go_upto_region 3 with (fail)
  rw [← HW6.out.1, ← HW6.out.2]
  clear i0 i1 i2 c0 c1
  obtain ⟨i0, i1, i2⟩ := HK6.out.2.2.2
  obtain ⟨c0, c1, r0, r1, r2, z0, z1, z2⟩ := HK6.out.2.1
  simp only [Nat.zero_add] at i1 i2
  have q7 : B + 1 < W6.heap.size := block_lt_of_cell r0
  go_wp2_with fail
  go_loopg [8] k (fun g iv wx => ∃ i : Nat, g = k - i ∧ iv = .int .i64 (i : Int) ∧ i ≤ k ∧ (∀ j x, j < i → p.funcs[j]? = some x → x.name ≠ f.name) ∧ Below W6.heap.size W6 wx)
  case atStart => exact ⟨0, rfl, rfl, Nat.zero_le _, fun j x h => absurd h (Nat.not_lt_zero _), Below.refl _ _⟩
  case round =>
    obtain ⟨i, hg, rfl, hi, hn, hbq⟩ := hrel
    obtain ⟨V, hV⟩ : ∃ V : World, V = wr := ⟨_, rfl⟩
    subst hV
    have hszq := hbq.size
    have Hgq := Lib.hid hg
    have Hn := Lib.hid hn
    have hkv := HK6.out.1.later hbq
    have hckv := HK6.out.2.1.later hbq
    have hfcv := HK6.out.2.2.2.later hbq q6
    have hbWv : Below W.heap.size W V := HK6.out.2.2.1.trans (hbq.mono HK6.out.2.2.1.size)
    have HV := Lib.hid (And.intro hkv (And.intro hckv (And.intro hbWv hfcv)))
    have Hbq := Lib.hid hbq
    have qv : D < V.heap.size := by omega
    have qv7 : B + 1 < V.heap.size := by omega
    clear hg hn hkv hckv hfcv hbq c0 c1 r0 r1 r2 z0 z1 z2 i0 i1 i2
    obtain ⟨c0, c1, r0, r1, r2, z0, z1, z2⟩ := HV.out.2.1
    obtain ⟨i0, i1, i2⟩ := HV.out.2.2.2
    simp only [Nat.zero_add] at i1 i2
    by_cases hik : i < k
    · obtain ⟨x, hx⟩ : ∃ x, p.funcs[i]? = some x := ⟨_, List.getElem?_eq_getElem (by rw [← Hl.out.2]; omega)⟩
      obtain ⟨b2, off2, e2, hb2, hP2⟩ := Hrow.out.at (i := i) (by rw [← Hl.out.2]; omega)
      cases e2
      obtain ⟨j0, j1, j2⟩ := (hP2 x hx).later hbWv hb2
      have Hx := Lib.hid hx
      have hiN : i < N := by omega
      clear hx hP2 j1 j2 hbWv
      by_cases hs : x.name = f.name
      · have hq : (x.name.toList == f.name.toList) = true := by rw [bytes_beq]; exact decide_eq_true hs
        have hin : f.name ∈ G := by
          rw [HG.out.1, ← hs]
          exact List.mem_of_getElem? (gAt_get Hx.out hik)
        have Hres : Hid (f.nfault G k = (9, (k : Int), 0)) := by show _ = _; unfold Fn.nfault; rw [if_pos (.inl hin)]
        clear hs hin
        go_wp2_with (go_quiet (fail))
        have HVd := Lib.hid (And.intro (HV.out.2.1.later (below_draws V nq)) (HV.out.2.2.1.trans ((below_draws V nq).mono HV.out.2.2.1.size)))
        obtain ⟨w9, hw9⟩ : ∃ w9, w9 = (((V.drewN nq).setCell ⟨B + 1, 0, none⟩ (.int .i64 9)).setCell ⟨B + 1, 1, none⟩ (.int .i64 (k : Int))).setCell ⟨B + 1, 2, none⟩ (.int .i64 0) := ⟨_, rfl⟩
        rw [← hw9]
        obtain ⟨e0, e1, e2, hO9⟩ := (HVd.out.1).answer (9, (k : Int), 0) w9 hw9
        have HO9 := Lib.hid hO9
        clear hw9 hO9 c0 c1 r0 r1 r2 z0 z1 z2
        dsimp only at e0 e1 e2
        refine bodyPost_ret (v := .tuple #[ptrV c, .agg #[.int .i64 9, .int .i64 (k : Int), .int .i64 0]]) (by simp [results, Tryz.results28, go_sem, e0, e1, e2]; try rfl) rfl ?_
        refine ⟨c, bs, .bool false, [], 0, 0, 0, [], by rw [Hres.out]; rfl, HVd.out.2.trans (HO9.out.below HVd.out.2.size fun _ e => by omega), Nat.lt_of_lt_of_le (Nat.lt_of_lt_of_le (Nat.lt_trans qcD q6) hszq) HO9.out.size, fun h => by rw [Hres.out] at h; cases h⟩
      · have hq : (x.name.toList == f.name.toList) = false := by rw [bytes_beq]; exact decide_eq_false hs
        have Hs := Lib.hid hs
        clear hs
        go_wp2_with (go_quiet (fail))
        go_roundg (k - (i + 1))
        case measure => have := Hgq.out; omega
        case rel => exact ⟨i + 1, rfl, by go_num, hik, fun j y hj hy => by
            by_cases e : j = i
            · subst e
              rw [Hx.out] at hy
              cases hy; exact Hs.out
            · exact Hn.out j y (by omega) hy, Hbq.out.trans ((below_draws V nq).mono Hbq.out.size)⟩
    · obtain rfl : k = i := by omega
      have Hno : Hid (f.name ∉ G) := fun hm => by
        obtain ⟨j, hj⟩ := List.mem_iff_getElem?.1 hm
        have hjl : j < k := by have := (List.getElem?_eq_some_iff.1 hj).1; rw [HG.out.2] at this; exact this
        obtain ⟨x, hx⟩ : ∃ x, p.funcs[j]? = some x := ⟨_, List.getElem?_eq_getElem (by rw [← Hl.out.2]; omega)⟩
        have h1 := gAt_get hx hjl
        rw [← HG.out.1, hj] at h1
        exact Hn.out j x hjl hx (Option.some.inj h1).symm
      clear hik
      go_wp2_with fail
      go_loopg [9] np (fun g jv wx => ∃ (j : Nat) (kvj : Value), g = np - j ∧ jv = .int .i64 (j : Int) ∧ j ≤ np ∧ RAt wx c bs (.slice aw m cw) (.slice (some ⟨b, off, none⟩) N cap) kvj (parK (f.params.take j)) (k : Int) 0 0 (if twiceB (f.params.take j) [] = true then 9 else 0) N [] ∧ WStep V wx c bs bs (.slice none 0 0) kvj)
      case atStart => exact ⟨0, _, rfl, rfl, Nat.zero_le _, by simpa [parK, twiceB] using HV.out.1, .refl _ _ _ _ _⟩
      case round =>
        obtain ⟨j, kvj, hg2, rfl, hj, hkj, hsj⟩ := hrel
        have Hg2 := Lib.hid hg2
        have hwt : ∀ x, WT c bs bs (.slice none 0 0) x → W1.heap.size ≤ x := by
          rintro x (e | e | e | e)
          · omega
          · omega
          · omega
          · cases e
        obtain ⟨ej, hej⟩ : ∃ e, e = if twiceB (f.params.take j) [] = true then (9 : Int) else 0 := ⟨_, rfl⟩
        rw [← hej] at hkj
        have Hej := Lib.hid hej
        have hVB : ∀ x, x < V.heap.size → x ≠ c → x ≠ bs → wr.heap[x]? = V.heap[x]? := fun x hx h1 h2 => hsj.oth.block x hx (by rintro (e | e | e | e); exact h2 e; exact h1 e; exact h2 e; cases e)
        have hOj : Oth (fun x => x = c ∨ x = bs) V wr := ⟨hsj.oth.os, hsj.oth.tape, hsj.oth.output, hsj.oth.size, fun x hx hs => hVB x hx (fun e => hs (.inl e)) (fun e => hs (.inr e))⟩
        have hckj := HV.out.2.1.oth4 hOj (by omega) (by omega)
        have hfcj : FnCells wr D 0 f (.slice ap np cp) (.slice ab nb cb) := by
          have kk := fun j => hOj.cell (p := ⟨D, j, none⟩) qv (by show ¬ (D = c ∨ D = bs); omega)
          exact ⟨(kk _).trans HV.out.2.2.2.c0, (kk _).trans HV.out.2.2.2.c1, (kk _).trans HV.out.2.2.2.c2⟩
        have hbWj : Below W.heap.size W wr := HV.out.2.2.1.trans (hOj.below HV.out.2.2.1.size fun x hx => by have := H1.out.1.size; omega)
        have Hj := Lib.hid (And.intro hkj (And.intro hsj (And.intro hckj (And.intro hfcj hbWj))))
        have qj := hOj.size
        clear hg2 hkj hsj hej hVB hOj hckj hwt c0 c1 r0 r1 r2 z0 z1 z2 i0 i1 i2
        obtain ⟨i0, i1, i2⟩ := hfcj
        simp only [Nat.zero_add] at i1 i2
        by_cases hjn : j < np
        · obtain ⟨y, hy⟩ : ∃ y, f.params[j]? = some y := ⟨_, List.getElem?_eq_getElem (by rw [← HX.out.2.2.1]; exact hjn)⟩
          obtain ⟨by_, oy, rfl, hby, hPy⟩ := Hrp.out.at (i := j) (by rw [← HX.out.2.2.1]; exact hjn)
          obtain ⟨k0, k1, k2⟩ := (hPy y hy).later hbWj hby
          have hpl : (parK (f.params.take j)).length ≤ 8 := by simp [parK]; omega
          have Hfr := Lib.hid (rfresh_any wr c bs (.slice aw m cw) (.slice (some ⟨b, off, none⟩) N cap) kvj (parK (f.params.take j)) (k : Int) 0 0 ej N [] y.name 1 112 Hj.out.1 (by omega) (by decide) rfl)
          have Hy := Lib.hid hy
          clear hPy hy hpl hbWj k1 k2 i2
          go_wp2_with fail
          refine Hfr.out.mono ?_
          rintro E w8 ⟨rfl, kv8, h8, s8⟩
          have H8 := Lib.hid (And.intro h8 (Hj.out.2.1.trans s8))
          clear h8 s8 Hfr k0 i0 i1
          go_wp2_with fail
          go_roundg (np - (j + 1))
          case measure => have := Hg2.out; omega
          case rel =>
            refine ⟨j + 1, kv8, rfl, by go_num, by omega, H8.out.1.to (parK_take Hy.out).symm rfl rfl ?_, H8.out.2⟩
            have h := Hej.out
            by_cases ht : twiceB (f.params.take j) [] = true
            · rw [if_pos ht] at h
              have h2 : twiceB (f.params.take (j + 1)) [] = true := twiceB_stop j (by rw [List.take_take, Nat.min_eq_left (by omega)]; exact ht)
              rw [h, if_pos h2]; rfl
            · rw [if_neg ht] at h
              rw [h, keepE_zero, twiceB_next Hy.out (by simpa using ht)]
              unfold freshE
              by_cases hk : kindOf (parK (f.params.take j)) y.name = 0
              · simp [hk]
              · simp [hk]
        · obtain rfl : np = j := by omega
          have htk : f.params.take np = f.params := List.take_of_length_le (by rw [← HX.out.2.2.1]; exact Nat.le_refl _)
          have hkj := Hj.out.1
          have hej := Hej.out
          rw [htk] at hkj hej
          have hpl : (parK f.params).length ≤ 8 := by have := Hg.out.few; simp [parK]; omega
          have Hcall := Lib.hid (HX.out.2.1 Hg.out.body wr c bs (.slice aw m cw) kvj (parK f.params) 0 0 ej [] hbWj (by have := H1.out.1.size; omega) (by rw [← Hl.out.2]; exact hkj) (by omega) (by have := Hg.out.total; omega) (by omega) (by have := Hg.out.total; omega) (by have := Hg.out.total; omega))
          have Hej2 := Lib.hid hej
          clear hjn htk hkj hej hpl hbWj i0
          go_wp2_with fail
          refine Hcall.out.mono ?_
          rintro E w8 ⟨rfl, kv8, C8, hK8, hs8, hC8⟩
          rw [← HG.out.1, ← Hl.out.2] at hK8
          rw [← HG.out.1] at hC8
          have hs18 := Hj.out.2.1.trans hs8
          have hO8 : Oth (fun x => x = c ∨ x = bs) V w8 := ⟨hs18.oth.os, hs18.oth.tape, hs18.oth.output, hs18.oth.size, fun x hx hs => hs18.oth.block x hx (by rintro (e | e | e | e); exact hs (.inr e); exact hs (.inl e); exact hs (.inr e); cases e)⟩
          have hck8 := HV.out.2.1.oth4 hO8 (by omega) (by omega)
          have hbW8 : Below W.heap.size W w8 := HV.out.2.2.1.trans (hO8.below HV.out.2.2.1.size fun x hx => by have := H1.out.1.size; omega)
          obtain ⟨r, hr⟩ : ∃ r, r = St.nchks (parK f.params) G 0 f.body := ⟨_, rfl⟩
          rw [← hr] at hK8 hC8
          have hfault : f.nfault G k = if ej ≠ 0 then (9, (k : Int), 0) else if r.2 ≠ 0 then (r.2, (k : Int), (r.1 : Int)) else (0, 0, 0) := by
            unfold Fn.nfault
            rw [← hr]
            by_cases ht : twiceB f.params [] = true
            · rw [if_pos (.inr ht), Hej2.out, if_pos ht, if_pos (show (9 : Int) ≠ 0 by decide)]
            · rw [if_neg (by rintro (h | h); exact Hno.out h; exact ht h), Hej2.out, if_neg ht, if_neg (show ¬ ((0 : Int) ≠ 0) by decide)]
          obtain ⟨ee, hee⟩ : ∃ e, e = keepE ej r.2 := ⟨_, rfl⟩
          obtain ⟨nn, hnn⟩ : ∃ n, n = (0 : Int) + goN ej r.1 := ⟨_, rfl⟩
          rw [← hee, ← hnn] at hK8
          have hf2 : f.nfault G k = if ee ≠ 0 then (ee, (k : Int), nn) else (0, 0, 0) := by
            rw [hfault, hee, hnn]
            by_cases h0 : ej = 0
            · rw [if_neg (fun h => h h0), h0, keepE_zero, goN_zero, Int.zero_add]
            · have h9 : ej = 9 := by
                have h := Hej2.out
                split at h
                · exact h
                · exact absurd h h0
              rw [if_pos h0, keepE_no h0, goN_no h0, if_pos h0, h9]; rfl
          have hej0 : ee = 0 → ej = 0 ∧ r.2 = 0 := fun h => by
            rw [hee] at h
            by_cases h0 : ej = 0
            · rw [h0, keepE_zero] at h; exact ⟨h0, h⟩
            · rw [keepE_no h0] at h; exact absurd h h0
          have H8 := Lib.hid (And.intro hK8 (And.intro hck8 (And.intro hbW8 (And.intro hf2 (And.intro hej0 hC8)))))
          have c6 := hK8.c6
          have c3 := hK8.c3
          have q8 := hO8.size
          have q8c := hK8.in
          clear hr hK8 hs8 hC8 hs18 hO8 hck8 hbW8 hfault hee hnn hf2 hej0 Hcall i1 i2
          obtain ⟨c0, c1, r0, r1, r2, z0, z1, z2⟩ := H8.out.2.1
          have q9 : B + 1 < w8.heap.size := block_lt_of_cell r0
          by_cases hz : ee = 0
          · have Hres : Hid (f.nfault G k = (0, 0, 0)) := by show _ = _; rw [H8.out.2.2.2.1, if_neg (fun h => h hz)]
            have Hz := Lib.hid hz
            have hq : (ee != 0) = false := by simp [hz]
            clear hz
            go_wp2_with fail
            obtain ⟨w9, hw9⟩ : ∃ w9, w9 = ((w8.setCell ⟨B + 1, 0, none⟩ (.int .i64 0)).setCell ⟨B + 1, 1, none⟩ (.int .i64 0)).setCell ⟨B + 1, 2, none⟩ (.int .i64 0) := ⟨_, rfl⟩
            rw [← hw9]
            obtain ⟨e0, e1, e2, hO9⟩ := (H8.out.2.1).answer (0, 0, 0) w9 hw9
            have HO9 := Lib.hid hO9
            clear hw9 hO9 c0 c1 r0 r1 r2 z0 z1 z2
            dsimp only at e0 e1 e2
            refine bodyPost_ret (v := .tuple #[ptrV c, .agg #[.int .i64 0, .int .i64 0, .int .i64 0]]) (by simp [results, Tryz.results28, go_sem, e0, e1, e2]; try rfl) rfl ?_
            obtain ⟨h1, h2⟩ := H8.out.2.2.2.2.1 Hz.out
            have hC := H8.out.2.2.2.2.2 h1 h2
            refine ⟨c, bs, kv8, parK f.params, nn, 0, ee, C8, by rw [Hres.out]; rfl, H8.out.2.2.1.trans (HO9.out.below H8.out.2.2.1.size fun _ e => by omega), Nat.lt_of_lt_of_le q8c HO9.out.size, fun _ => ⟨H8.out.1.oth HO9.out (by omega) (by omega) (fun g e => by have := H8.out.1.own g e; omega), fun z => by rw [hC z]; simp⟩⟩
          · have Hres : Hid (f.nfault G k = (ee, (k : Int), nn)) := by show _ = _; rw [H8.out.2.2.2.1, if_pos hz]
            have Hz := Lib.hid hz
            have hq : (ee != 0) = true := by simp [hz]
            clear hz
            go_upto_region 14 with (fail)
            go_still_tail 12, (by kernel_rfl)
            obtain ⟨wd, hwd⟩ : ∃ wd, wd = w8.drew := ⟨_, rfl⟩
            change wpList _ _ _ _ _ w8.drew
            rw [← hwd]
            have hbd : Below w8.heap.size w8 wd := by rw [hwd]; exact (Below.refl _ _).drew
            have hsd : wd.heap.size = w8.heap.size := by rw [hwd]; rfl
            have k6 := (hbd.cell (p := ⟨c, 6, none⟩) q8c).trans c6
            have k3 := (hbd.cell (p := ⟨c, 3, none⟩) q8c).trans c3
            have HKd := Lib.hid (And.intro (H8.out.2.1.later hbd) (H8.out.2.2.1.trans (hbd.mono H8.out.2.2.1.size)))
            have q9d : B + 1 < wd.heap.size := by omega
            have qcd : c < wd.heap.size := by omega
            clear hwd hbd hsd c0 c1 r0 r1 r2 z0 z1 z2 c6 c3
            obtain ⟨c0, c1, r0, r1, r2, z0, z1, z2⟩ := HKd.out.1
            go_wp2_with fail
            obtain ⟨w9, hw9⟩ : ∃ w9, w9 = ((wd.setCell ⟨B + 1, 0, none⟩ (.int .i64 ee)).setCell ⟨B + 1, 1, none⟩ (.int .i64 (k : Int))).setCell ⟨B + 1, 2, none⟩ (.int .i64 nn) := ⟨_, rfl⟩
            rw [← hw9]
            obtain ⟨e0, e1, e2, hO9⟩ := (HKd.out.1).answer (ee, (k : Int), nn) w9 hw9
            have HO9 := Lib.hid hO9
            clear hw9 hO9 c0 c1 r0 r1 r2 z0 z1 z2
            dsimp only at e0 e1 e2
            refine bodyPost_ret (v := .tuple #[ptrV c, .agg #[.int .i64 ee, .int .i64 (k : Int), .int .i64 nn]]) (by simp [results, Tryz.results28, go_sem, e0, e1, e2]; try rfl) rfl ?_
            refine ⟨c, bs, .bool false, [], 0, 0, 0, [], by rw [Hres.out]; rfl, HKd.out.2.trans (HO9.out.below HKd.out.2.size fun _ e => by omega), Nat.lt_of_lt_of_le qcd HO9.out.size, fun h => absurd (by rw [Hres.out] at h; exact h) Hz.out⟩
end Go.Proofs.YtgcplcffejbniaaGreat
