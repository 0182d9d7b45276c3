/- code.May: a module that may be. -/
import Derived.Test.YtgobcldecokppaaDoorGnIns
/- code.whole and code.May: a module that may be. -/
namespace Go.Proofs.YtgobcldecokppaaDoor
open Go.RowKit Go.Maps

set_option maxRecDepth 100000 in
set_option maxHeartbeats 4000000 in
theorem whole_any (l : List GR) (vt vm : Value) (ts : List Int) (i0 : Nat) (x : GR) (W : World) (h : GmIn W vt vm ts l) (hx : l[i0]? = some x) (hg : GFOk (l.map GR.g) x.g) (hne : ∀ j y, j < i0 → l[j]? = some y → y.g.name ≠ x.g.name) :
    Calls Tryd.prog 17 #[.agg #[vt, vm], .int .i64 (i0 : Nat)] W (Gives (.tuple #[.int .i64 0, .int .i64 0]) W) := by
  obtain ⟨hnm, hfew, hpar, ⟨hr1, hr2, hr3⟩, ⟨hw1, hw2⟩, ⟨hc1, hc2⟩, -, -⟩ := hg
  obtain ⟨hrow, ma, mc, rfl, hmc, hmx, -⟩ := id h.row
  obtain ⟨mn, hmn⟩ : ∃ mn, mn = l.length := ⟨_, rfl⟩
  have him : i0 < mn := by rw [hmn]; exact (List.getElem?_eq_some_iff.1 hx).1
  have hm62 : mn ≤ 9223372036854775807 := by
    have : maxLen ≤ 9223372036854775807 := by decide
    omega
  rw [← hmn] at h ⊢
  obtain ⟨b3, o3, rfl, -, e0, e1, e2, e3, e4⟩ := gr_cell h.row hx (by omega)
  obtain ⟨hp, hc⟩ := h.each x (List.mem_of_getElem? hx)
  have Hne := Lib.hid (And.intro hx hne)
  obtain ⟨W0, hW0⟩ : ∃ w : World, w = W.alloc (.cells #[vt, .slice (some ⟨b3, o3, none⟩) mn mc] 29) := ⟨_, rfl⟩
  obtain ⟨B, hB⟩ : ∃ B, B = W.heap.size := ⟨_, rfl⟩
  have b0 : Below W.heap.size W W0 := by rw [hW0]; exact (Below.refl _ _).alloc (Nat.le_refl _) _
  have m0 : W0.cell? ⟨B, 0, none⟩ = some vt := by rw [hW0]; exact World.cell?_alloc_at _ _ _ _ hB
  have m1 : W0.cell? ⟨B, 1, none⟩ = some (.slice (some ⟨b3, o3, none⟩) mn mc) := by rw [hW0]; exact World.cell?_alloc_at _ _ _ _ hB
  have k0 := (b0.cell (p := ⟨b3, o3 + i0 * 5, none⟩) (block_lt_of_cell e0)).trans e0
  have k1 := (b0.cell (p := ⟨b3, o3 + i0 * 5 + 1, none⟩) (block_lt_of_cell e1)).trans e1
  have k2 := (b0.cell (p := ⟨b3, o3 + i0 * 5 + 2, none⟩) (block_lt_of_cell e2)).trans e2
  have k3 := (b0.cell (p := ⟨b3, o3 + i0 * 5 + 3, none⟩) (block_lt_of_cell e3)).trans e3
  have k4 := (b0.cell (p := ⟨b3, o3 + i0 * 5 + 4, none⟩) (block_lt_of_cell e4)).trans e4
  obtain ⟨-, pa, pc, hvp, hpc, hpx, -⟩ := id hp
  obtain ⟨-, ca, cc, hvc, hcc, hcx, -⟩ := id hc
  rw [hvp] at hp k1
  rw [hvc] at hc k4
  obtain ⟨np, hnp⟩ : ∃ np, np = x.g.params.length := ⟨_, rfl⟩
  obtain ⟨nc, hnc⟩ : ∃ nc, nc = x.g.code.length := ⟨_, rfl⟩
  obtain ⟨rg, hrg⟩ : ∃ rg, rg = x.g.regs := ⟨_, rfl⟩
  obtain ⟨wd, hwd⟩ : ∃ wd, wd = x.g.words := ⟨_, rfl⟩
  obtain ⟨s, hs⟩ : ∃ s, s = x.g.name := ⟨_, rfl⟩
  rw [← hs] at k0 hnm
  rw [← hrg] at k2 hr1 hr2 hr3
  rw [← hwd] at k3 hw1 hw2
  rw [← hnp] at hp k1 hfew hr3
  rw [← hnc] at k4 hc1 hc2
  obtain ⟨W1, hW1⟩ : ∃ w : World, w = W0.alloc (.cells #[.string s, .slice pa np pc, .int .i64 rg, .int .i64 wd, .slice ca nc cc] 44) := ⟨_, rfl⟩
  obtain ⟨D, hD⟩ : ∃ D, D = W0.heap.size := ⟨_, rfl⟩
  have b1 : Below W0.heap.size W0 W1 := by rw [hW1]; exact (Below.refl _ _).alloc (Nat.le_refl _) _
  have d0 : W1.cell? ⟨D, 0, none⟩ = some (.string s) := by rw [hW1]; exact World.cell?_alloc_at _ _ _ _ hD
  have d1 : W1.cell? ⟨D, 1, none⟩ = some (.slice pa np pc) := by rw [hW1]; exact World.cell?_alloc_at _ _ _ _ hD
  have d2 : W1.cell? ⟨D, 2, none⟩ = some (.int .i64 rg) := by rw [hW1]; exact World.cell?_alloc_at _ _ _ _ hD
  have d3 : W1.cell? ⟨D, 3, none⟩ = some (.int .i64 wd) := by rw [hW1]; exact World.cell?_alloc_at _ _ _ _ hD
  have d4 : W1.cell? ⟨D, 4, none⟩ = some (.slice ca nc cc) := by rw [hW1]; exact World.cell?_alloc_at _ _ _ _ hD
  have n0 := (b1.cell (p := ⟨B, 0, none⟩) (block_lt_of_cell m0)).trans m0
  have n1 := (b1.cell (p := ⟨B, 1, none⟩) (block_lt_of_cell m1)).trans m1
  have b01 : Below W.heap.size W W1 := b0.trans (b1.mono b0.size)
  have H1 := Lib.hid (And.intro b01 (And.intro (h.later b01) (And.intro (SliceIn.later hp b01) (And.intro hpar hnp))))
  have HW := Lib.hid (And.intro hB (And.intro hW0 (And.intro hD hW1)))
  have Hs := Lib.hid hs
  have Hnm := Lib.hid hnm
  have hq1 : decide (rg < 1) = false := by simp; omega
  have hq2 : decide (64 < rg) = false := by simp; omega
  have hq3 : decide (rg < (np : Int)) = false := by simp; omega
  have hq4 : decide (wd < 0) = false := by simp; omega
  have hq5 : decide (4096 < wd) = false := by simp; omega
  have hq6 : ((nc : Int) == 0) = false := by simp; omega
  have hq7 : decide ((1024 : Int) < (nc : Int)) = false := by simp; omega
  have hn62 : np ≤ 8 := by omega
  clear h hx hne b0 b1 b01 hW0 hB hW1 hD e0 e1 e2 e3 e4 hp hc hvp hvc hnp hnc hrg hwd hs hmn hmx hmc hpc hpx hcc hcx hrow hpar hnm hfew
  go_enter Tryd.func17, Tryd.ntmps17
  go_upto_region 1 with (fail)
  rw [← HW.out.1, ← HW.out.2.1]
  go_upto_region 2 with (fail)
  rw [← HW.out.2.2.1, ← HW.out.2.2.2]
  clear k0 k1 k2 k3 k4 m0 m1
  go_wp2_with fail
  refine (isName_any s Hnm.out W1).mono ?_
  rintro e w ⟨rfl, hw⟩
  rw [← hw]
  clear hw
  go_wp2_with fail
  refine (findG_any l _ _ ts i0 x s W1 H1.out.2.1 Hne.out.1 Hs.out.symm (fun j y hj hy => by rw [Hs.out]; exact Hne.out.2 j y hj hy)).mono ?_
  rintro e w2 ⟨rfl, hb2⟩
  have g1 := (hb2.cell (p := ⟨D, 1, none⟩) (block_lt_of_cell d1)).trans d1
  have g2 := (hb2.cell (p := ⟨D, 2, none⟩) (block_lt_of_cell d2)).trans d2
  have g3 := (hb2.cell (p := ⟨D, 3, none⟩) (block_lt_of_cell d3)).trans d3
  have g4 := (hb2.cell (p := ⟨D, 4, none⟩) (block_lt_of_cell d4)).trans d4
  have H2 := Lib.hid (And.intro (H1.out.1.trans (hb2.mono H1.out.1.size)) (SliceIn.later H1.out.2.2.1 hb2))
  clear hb2 d0 d1 d2 d3 d4 n0 n1
  go_wp2_with fail
  go_loopw [31] (fun i wr => ∃ k : Nat, k ≤ np ∧ i = .int .i64 k ∧ Below w2.heap.size w2 wr) (fun i _ => np - (intOf i).toNat)
  case atStart => exact ⟨0, Nat.zero_le _, rfl, Below.refl _ _⟩
  case round =>
    obtain ⟨k, hk, rfl, hO⟩ := hrel
    obtain ⟨Wr, hWr⟩ : ∃ Wr : World, Wr = wr := ⟨_, rfl⟩
    subst hWr
    by_cases hkn : k < np
    · have hpi : PrrIn Wr (.slice pa np pc) x.g.params := SliceIn.later H2.out.2 hO
      have hkl : k < x.g.params.length := by rw [← H1.out.2.2.2.2]; exact hkn
      obtain ⟨b4, o4, rfl, -, p1, p2⟩ := PrrIn.cell hpi hkl
      have hle : (x.g.params.getD k (0, 0)).1 ≤ (x.g.params.getD k (0, 0)).2 := by
        refine H1.out.2.2.2.1 _ ?_
        rw [List.getD_eq_getElem?_getD, List.getElem?_eq_getElem hkl]
        exact List.getElem_mem hkl
      generalize (x.g.params.getD k (0, 0)).1 = y1 at p1 hle
      generalize (x.g.params.getD k (0, 0)).2 = y2 at p2 hle
      have HO := Lib.hid hO
      clear hpi hkl hO
      go_wp2_with fail
      go_roundw
      case rel => exact ⟨k + 1, by omega, by go_num, HO.out.alloc HO.out.size _⟩
      case measure => simp [intOf]; omega
    · obtain rfl : k = np := by omega
      have f2 := (hO.cell (p := ⟨D, 2, none⟩) (block_lt_of_cell g2)).trans g2
      have f1 := (hO.cell (p := ⟨D, 1, none⟩) (block_lt_of_cell g1)).trans g1
      have f3 := (hO.cell (p := ⟨D, 3, none⟩) (block_lt_of_cell g3)).trans g3
      have f4 := (hO.cell (p := ⟨D, 4, none⟩) (block_lt_of_cell g4)).trans g4
      have HO := Lib.hid (H2.out.1.trans (hO.mono H2.out.1.size))
      clear hk hkn hO g1 g2 g3 g4
      go_wp2_with fail
      exact bodyPost_ret (results_tmp2 rfl _ _ _) rfl ⟨rfl, HO.out⟩
end Go.Proofs.YtgobcldecokppaaDoor

namespace Go.Proofs.YtgobcldecokppaaDoor
open Go.RowKit Go.Maps

theorem intsG_cell {w : World} {a : Option Addr} {n cap : Nat} {l : List Int} (h : IntsIn w (.slice a n cap) l) {k : Nat} (hk : k < l.length) :
    ∃ b off, a = some ⟨b, off, none⟩ ∧ b < w.heap.size ∧ w.cell? ⟨b, off + k, none⟩ = some (.int .i64 l[k]) := by
  obtain ⟨_, a', cap', hv, _, _, _, hc⟩ := h
  cases hv
  obtain ⟨b, off, rfl, hb, hc⟩ := hc (by omega)
  exact ⟨b, off, rfl, hb, hc k _ (by simp [intVs, List.getElem?_eq_getElem hk])⟩
theorem flt_fill {w : World} {R : Nat} {u0 u1 u2 : Value} (h0 : w.cell? ⟨R, 0, none⟩ = some u0) (h1 : w.cell? ⟨R, 1, none⟩ = some u1) (h2 : w.cell? ⟨R, 2, none⟩ = some u2) (x0 x1 x2 : Value) :
    (((w.setCell ⟨R, 0, none⟩ x0).setCell ⟨R, 1, none⟩ x1).setCell ⟨R, 2, none⟩ x2).cell? ⟨R, 0, none⟩ = some x0 ∧ (((w.setCell ⟨R, 0, none⟩ x0).setCell ⟨R, 1, none⟩ x1).setCell ⟨R, 2, none⟩ x2).cell? ⟨R, 1, none⟩ = some x1 ∧
    (((w.setCell ⟨R, 0, none⟩ x0).setCell ⟨R, 1, none⟩ x1).setCell ⟨R, 2, none⟩ x2).cell? ⟨R, 2, none⟩ = some x2 := by
  have ni : ∀ (i j : Nat), i ≠ j → (⟨R, i, none⟩ : Addr) ≠ ⟨R, j, none⟩ := fun i j hij e => hij (by injection e)
  have a1 : (w.setCell ⟨R, 0, none⟩ x0).cell? ⟨R, 1, none⟩ = some u1 := (World.cell?_setCell_other _ _ _ _ (ni 0 1 (by omega))).trans h1
  have a2 : ((w.setCell ⟨R, 0, none⟩ x0).setCell ⟨R, 1, none⟩ x1).cell? ⟨R, 2, none⟩ = some u2 := (World.cell?_setCell_other _ _ _ _ (ni 1 2 (by omega))).trans ((World.cell?_setCell_other _ _ _ _ (ni 0 2 (by omega))).trans h2)
  refine ⟨(World.cell?_setCell_other _ _ _ _ (ni 2 0 (by omega))).trans ((World.cell?_setCell_other _ _ _ _ (ni 1 0 (by omega))).trans (World.cell?_setCell_same' _ _ _ (by rw [h0]; rfl))), (World.cell?_setCell_other _ _ _ _ (ni 2 1 (by omega))).trans (World.cell?_setCell_same' _ _ _ (by rw [a1]; rfl)), World.cell?_setCell_same' _ _ _ (by rw [a2]; rfl)⟩
set_option maxRecDepth 100000 in
set_option maxHeartbeats 8000000 in
theorem may_any (l : List GR) (vt vm : Value) (ts : List Int) (W : World) (h : GmIn W vt vm ts l) (hM : MayM ts (l.map GR.g)) (hT : TabIn W) : Calls Tryd.prog 7 #[.agg #[vt, vm]] W (Gives (fltV (0, 0, 0)) W) := by
  obtain ⟨hM1, hM2, hM3, hM4, hM5⟩ := hM
  rw [List.length_map] at hM3
  obtain ⟨-, ma, mc, rfl, -⟩ := id h.row
  obtain ⟨-, ta, tc, rfl, -⟩ := id h.thr
  obtain ⟨mn, hmn⟩ : ∃ mn, mn = l.length := ⟨_, rfl⟩
  obtain ⟨tn, htn⟩ : ∃ tn, tn = ts.length := ⟨_, rfl⟩
  rw [← hmn, ← htn] at h
  rw [← hmn, ← htn]
  rw [← hmn] at hM3
  rw [← htn] at hM1
  obtain ⟨W0, hW0⟩ : ∃ w : World, w = W.alloc (.cells #[.slice ta tn tc, .slice ma mn mc] 29) := ⟨_, rfl⟩
  obtain ⟨W1, hW1⟩ : ∃ w : World, w = W0.alloc (.cells #[.int .i64 0, .int .i64 0, .int .i64 0] 32) := ⟨_, rfl⟩
  obtain ⟨B, hB⟩ : ∃ B, B = W.heap.size := ⟨_, rfl⟩
  have z0 : W0.heap.size = B + 1 := by rw [hW0, hB]; simp
  have b0 : Below W.heap.size W W0 := by rw [hW0]; exact (Below.refl _ _).alloc (Nat.le_refl _) _
  have b1 : Below W0.heap.size W0 W1 := by rw [hW1]; exact (Below.refl _ _).alloc (Nat.le_refl _) _
  have b01 : Below W.heap.size W W1 := b0.trans (b1.mono b0.size)
  have m0 : W1.cell? ⟨B, 0, none⟩ = some (.slice ta tn tc) := by
    have h0 : W0.cell? ⟨B, 0, none⟩ = some (.slice ta tn tc) := by rw [hW0]; exact World.cell?_alloc_at _ _ _ _ hB
    exact (b1.cell (p := ⟨B, 0, none⟩) (by show B < _; omega)).trans h0
  have m1 : W1.cell? ⟨B, 1, none⟩ = some (.slice ma mn mc) := by
    have h0 : W0.cell? ⟨B, 1, none⟩ = some (.slice ma mn mc) := by rw [hW0]; exact World.cell?_alloc_at _ _ _ _ hB
    exact (b1.cell (p := ⟨B, 1, none⟩) (by show B < _; omega)).trans h0
  have r0 : W1.cell? ⟨B + 1, 0, none⟩ = some (.int .i64 0) := by rw [hW1]; exact World.cell?_alloc_at _ _ _ _ z0.symm
  have r1 : W1.cell? ⟨B + 1, 1, none⟩ = some (.int .i64 0) := by rw [hW1]; exact World.cell?_alloc_at _ _ _ _ z0.symm
  have r2 : W1.cell? ⟨B + 1, 2, none⟩ = some (.int .i64 0) := by rw [hW1]; exact World.cell?_alloc_at _ _ _ _ z0.symm
  have rf : ∀ j, W1.frozen? ⟨B + 1, j, none⟩ = false := fun j => by rw [hW1]; exact World.frozen?_alloc_at _ _ _ _ z0.symm
  have H1 := Lib.hid (And.intro b01 (And.intro (h.later b01) (hT.later b01)))
  have Hm := Lib.hid (And.intro hmn htn)
  have HM := Lib.hid (And.intro hM2 (And.intro hM4 hM5))
  have HR : Hid (∀ w', Below W1.heap.size W1 w' → (w'.cell? ⟨B + 1, 0, none⟩ = some (.int .i64 0) ∧ w'.cell? ⟨B + 1, 1, none⟩ = some (.int .i64 0) ∧ w'.cell? ⟨B + 1, 2, none⟩ = some (.int .i64 0)) ∧ (∀ j, w'.frozen? ⟨B + 1, j, none⟩ = false) ∧ w'.cell? ⟨B, 0, none⟩ = some (.slice ta tn tc) ∧ w'.cell? ⟨B, 1, none⟩ = some (.slice ma mn mc)) := fun w' hb =>
    ⟨⟨(hb.cell (p := ⟨B + 1, 0, none⟩) (block_lt_of_cell r0)).trans r0, (hb.cell (p := ⟨B + 1, 1, none⟩) (block_lt_of_cell r1)).trans r1, (hb.cell (p := ⟨B + 1, 2, none⟩) (block_lt_of_cell r2)).trans r2⟩, fun j => (hb.frozen (p := ⟨B + 1, j, none⟩) (show B + 1 < W1.heap.size from block_lt_of_cell (a := ⟨B + 1, 0, none⟩) r0)).trans (rf j), (hb.cell (p := ⟨B, 0, none⟩) (block_lt_of_cell m0)).trans m0, (hb.cell (p := ⟨B, 1, none⟩) (block_lt_of_cell m1)).trans m1⟩
  have HW := Lib.hid (And.intro hB (And.intro hW0 hW1))
  clear h hT hM2 hM4 hM5 hB hW0 hW1 z0 b0 b1 b01 hmn htn r0 r1 r2 rf
  go_enter Tryd.func7, Tryd.ntmps7
  go_upto_region 1 with (fail)
  rw [← HW.out.1, ← HW.out.2.1, ← HW.out.2.2]
  go_wp2_with fail
  go_loopw [3] (fun i wr => ∃ j k : Nat, j = k + 1 ∧ i = .int .i64 (j : Int) ∧ k ≤ tn ∧ ∃ q, wr = W1.drewN q) (fun i _ => tn + 1 - (intOf i).toNat)
  case atStart => exact ⟨1, 0, rfl, rfl, Nat.zero_le _, 0, rfl⟩
  case round =>
    obtain ⟨j, k, hjk, rfl, hk, q, rfl⟩ := hrel
    have Hjk := Lib.hid hjk
    by_cases hkt : j < tn
    · have hth := H1.out.2.1.thr
      obtain ⟨b3, o3, hta, -, d1⟩ := intsG_cell hth (k := k) (by rw [← Hm.out.2]; omega)
      subst hta
      obtain ⟨b4, o4, hta, -, d2⟩ := intsG_cell hth (k := j) (by rw [← Hm.out.2]; omega)
      cases hta
      have hk1 : k < ts.length := by rw [← Hm.out.2]; omega
      have hk2 : j < ts.length := by rw [← Hm.out.2]; omega
      have hlt := HM.out.1 k _ _ (List.getElem?_eq_getElem hk1) (by rw [← hjk]; exact List.getElem?_eq_getElem hk2)
      have hw1 : IntKind.i64.wrap ((j : Int) - 1) = (k : Int) := by rw [Go.IntWalk.i64_in _ (by omega)]; omega
      have hkn : k < tn := by omega
      generalize ts[k] = y1 at d1 hlt
      generalize ts[j] = y2 at d2 hlt
      have hk4 : ¬ (y2 ≤ y1) := by omega
      clear hth hk1 hk2 hjk
      go_wp2_with (go_quiet (fail))
      go_roundw
      case rel => exact ⟨j + 1, j, rfl, by go_num, by omega, _, rfl⟩
      case measure => simp [intOf]; omega
    · clear hk hjk
      go_wp2_with fail
      go_loopw [47] (fun i wr => ∃ j : Nat, j ≤ mn ∧ i = .int .i64 j ∧ Below W1.heap.size W1 wr) (fun i _ => mn - (intOf i).toNat)
      case atStart => exact ⟨0, Nat.zero_le _, rfl, below_draws _ _⟩
      case round =>
        obtain ⟨j, hj, rfl, hO⟩ := hrel
        obtain ⟨Wr, hWr⟩ : ∃ Wr : World, Wr = wr := ⟨_, rfl⟩
        subst hWr
        by_cases hjm : j < mn
        · obtain ⟨x, hx⟩ : ∃ x, l[j]? = some x := ⟨_, List.getElem?_eq_getElem (by rw [← Hm.out.1]; exact hjm)⟩
          have hg := HM.out.2.1 x.g (List.mem_map.2 ⟨x, List.mem_of_getElem? hx, rfl⟩)
          have Hcall := Lib.hid (whole_any l _ _ ts j x Wr (H1.out.2.1.later hO) hx hg (fun i y hi hy => HM.out.2.2 i j y.g x.g hi (by simp [hy]) (by simp [hx])))
          obtain ⟨-, -, n0, n1⟩ := HR.out Wr hO
          have HO := Lib.hid hO
          clear hx hg hO
          go_wp2_with fail
          refine Hcall.out.mono ?_
          rintro e w2 ⟨rfl, hb2⟩
          have H2 := Lib.hid (HO.out.trans (hb2.mono HO.out.size))
          clear hb2
          go_wp2_with fail
          go_roundw
          case rel => exact ⟨j + 1, by omega, by go_num, H2.out⟩
          case measure => simp [intOf]; omega
        · obtain rfl : j = mn := by omega
          obtain ⟨-, -, n0, n1⟩ := HR.out Wr hO
          have HO := Lib.hid hO
          clear hj hjm hO
          go_wp2_with fail
          go_loopw [66] (fun i wr => ∃ i0 : Nat, i0 ≤ j ∧ i = .int .i64 i0 ∧ Below W1.heap.size W1 wr) (fun i _ => j - (intOf i).toNat)
          case atStart => exact ⟨0, Nat.zero_le _, rfl, HO.out⟩
          case round =>
            obtain ⟨i0, hi0, rfl, hO3⟩ := hrel
            obtain ⟨W5, hW5⟩ : ∃ W5 : World, W5 = wr := ⟨_, rfl⟩
            subst hW5
            obtain ⟨⟨s0, s1, s2⟩, sf, u0, u1⟩ := HR.out W5 hO3
            by_cases hij : i0 < j
            · obtain ⟨x, hx⟩ : ∃ x, l[i0]? = some x := ⟨_, List.getElem?_eq_getElem (by rw [← Hm.out.1]; exact hij)⟩
              have hg := HM.out.2.1 x.g (List.mem_map.2 ⟨x, List.mem_of_getElem? hx, rfl⟩)
              have hm5 := H1.out.2.1.later hO3
              obtain ⟨b3, o3, hma, -, e0, e1, e2, e3, e4⟩ := gr_cell hm5.row hx (by rw [← Hm.out.1]; exact hij)
              subst hma
              obtain ⟨hp, hc⟩ := hm5.each x (List.mem_of_getElem? hx)
              obtain ⟨-, pa, pc, hvp, -⟩ := id hp
              obtain ⟨-, ca, cc, hvc, -⟩ := id hc
              rw [hvp] at e1
              rw [hvc] at e4 hc
              obtain ⟨np, hnp⟩ : ∃ np, np = x.g.params.length := ⟨_, rfl⟩
              obtain ⟨nc, hnc⟩ : ∃ nc, nc = x.g.code.length := ⟨_, rfl⟩
              rw [← hnp] at e1
              have hcl := hg.code
              obtain ⟨z, hz1, hz2⟩ := hg.last
              have hins := hg.ins
              have hreg := hg.regs.2.1
              rw [← hnc] at e4 hc hcl hz1
              have Hins := Lib.hid (And.intro hins (And.intro hnc (And.intro hz1 (And.intro hreg hc))))
              obtain ⟨W6, hW6⟩ : ∃ w : World, w = W5.alloc (.cells #[.string x.g.name, .slice pa np pc, .int .i64 x.g.regs, .int .i64 x.g.words, .slice ca nc cc] 44) := ⟨_, rfl⟩
              obtain ⟨D, hD⟩ : ∃ D, D = W5.heap.size := ⟨_, rfl⟩
              have b6 : Below W5.heap.size W5 W6 := by rw [hW6]; exact (Below.refl _ _).alloc (Nat.le_refl _) _
              have q0 : W6.cell? ⟨D, 0, none⟩ = some (.string x.g.name) := by rw [hW6]; exact World.cell?_alloc_at _ _ _ _ hD
              have q1 : W6.cell? ⟨D, 1, none⟩ = some (.slice pa np pc) := by rw [hW6]; exact World.cell?_alloc_at _ _ _ _ hD
              have q2 : W6.cell? ⟨D, 2, none⟩ = some (.int .i64 x.g.regs) := by rw [hW6]; exact World.cell?_alloc_at _ _ _ _ hD
              have q3 : W6.cell? ⟨D, 3, none⟩ = some (.int .i64 x.g.words) := by rw [hW6]; exact World.cell?_alloc_at _ _ _ _ hD
              have q4 : W6.cell? ⟨D, 4, none⟩ = some (.slice ca nc cc) := by rw [hW6]; exact World.cell?_alloc_at _ _ _ _ hD
              have H6 := Lib.hid (And.intro (hO3.trans (b6.mono hO3.size)) b6)
              have HW6 := Lib.hid (And.intro hD hW6)
              clear hx hg hm5 hp hc hvp hvc hnp hnc hz1 hins hreg b6 hW6 hD hO3
              go_upto_region 20 with (fail)
              rw [← HW6.out.1, ← HW6.out.2]
              clear e0 e1 e2 e3 e4 u0 u1 s0 s1 s2
              go_wp2_with fail
              go_loopw [74] (fun i wr => ∃ k1 : Nat, k1 ≤ nc ∧ i = .int .i64 k1 ∧ Below W6.heap.size W6 wr) (fun i _ => nc - (intOf i).toNat)
              case atStart => exact ⟨0, Nat.zero_le _, rfl, Below.refl _ _⟩
              case round =>
                obtain ⟨k1, hk1, rfl, hO7⟩ := hrel
                obtain ⟨W7, hW7⟩ : ∃ W7 : World, W7 = wr := ⟨_, rfl⟩
                subst hW7
                have hb17 := H6.out.1.trans (hO7.mono H6.out.1.size)
                obtain ⟨-, -, u0, u1⟩ := HR.out W7 hb17
                have t0 := (hO7.cell (p := ⟨D, 0, none⟩) (block_lt_of_cell q0)).trans q0
                have t1 := (hO7.cell (p := ⟨D, 1, none⟩) (block_lt_of_cell q1)).trans q1
                have t2 := (hO7.cell (p := ⟨D, 2, none⟩) (block_lt_of_cell q2)).trans q2
                have t3 := (hO7.cell (p := ⟨D, 3, none⟩) (block_lt_of_cell q3)).trans q3
                have t4 := (hO7.cell (p := ⟨D, 4, none⟩) (block_lt_of_cell q4)).trans q4
                have hb57 : Below W5.heap.size W5 W7 := H6.out.2.trans (hO7.mono H6.out.2.size)
                have hcode : CodeIn W7 (.slice ca nc cc) x.g.code := SliceIn.later Hins.out.2.2.2.2 hb57
                by_cases hkn : k1 < nc
                · have hkl : k1 < x.g.code.length := by rw [← Hins.out.2.1]; exact hkn
                  obtain ⟨b8, o8, hca, -, y0, y1, y2, y3, y4⟩ := CodeIn.cellg hcode hkl
                  subst hca
                  have hi := Hins.out.1 _ (List.getElem_mem hkl)
                  generalize x.g.code[k1] = ins at y0 y1 y2 y3 y4 hi
                  obtain ⟨V, hV⟩ : ∃ w : World, w = W7.alloc (.cells #[.int .i64 ins.op, .int .i64 ins.a, .int .i64 ins.b, .int .i64 ins.c, .int .i64 ins.n] 58) := ⟨_, rfl⟩
                  obtain ⟨E, hE⟩ : ∃ E, E = W7.heap.size := ⟨_, rfl⟩
                  have bV : Below W7.heap.size W7 V := by rw [hV]; exact (Below.refl _ _).alloc (Nat.le_refl _) _
                  have v0 : V.cell? ⟨E, 0, none⟩ = some (.int .i64 ins.op) := by rw [hV]; exact World.cell?_alloc_at _ _ _ _ hE
                  have v1 : V.cell? ⟨E, 1, none⟩ = some (.int .i64 ins.a) := by rw [hV]; exact World.cell?_alloc_at _ _ _ _ hE
                  have v2 : V.cell? ⟨E, 2, none⟩ = some (.int .i64 ins.b) := by rw [hV]; exact World.cell?_alloc_at _ _ _ _ hE
                  have v3 : V.cell? ⟨E, 3, none⟩ = some (.int .i64 ins.c) := by rw [hV]; exact World.cell?_alloc_at _ _ _ _ hE
                  have v4 : V.cell? ⟨E, 4, none⟩ = some (.int .i64 ins.n) := by rw [hV]; exact World.cell?_alloc_at _ _ _ _ hE
                  have w0 := (bV.cell (p := ⟨D, 0, none⟩) (block_lt_of_cell t0)).trans t0
                  have w1 := (bV.cell (p := ⟨D, 1, none⟩) (block_lt_of_cell t1)).trans t1
                  have w2 := (bV.cell (p := ⟨D, 2, none⟩) (block_lt_of_cell t2)).trans t2
                  have w3 := (bV.cell (p := ⟨D, 3, none⟩) (block_lt_of_cell t3)).trans t3
                  have w4 := (bV.cell (p := ⟨D, 4, none⟩) (block_lt_of_cell t4)).trans t4
                  have x0 := (bV.cell (p := ⟨B, 0, none⟩) (block_lt_of_cell u0)).trans u0
                  have x1 := (bV.cell (p := ⟨B, 1, none⟩) (block_lt_of_cell u1)).trans u1
                  have b1V : Below W1.heap.size W1 V := hb17.trans (bV.mono hb17.size)
                  have hcall := instr_any l (.slice ta tn tc) (.slice (some ⟨b3, o3, none⟩) j mc) (.slice pa np pc) ts x.g (some ⟨b8, o8, none⟩) cc ins V (H1.out.2.1.later b1V) hi (H1.out.2.2.later b1V) Hins.out.2.2.2.1
                  rw [← Hins.out.2.1] at hcall
                  have Hcall := Lib.hid hcall
                  have HV := Lib.hid (And.intro hE (And.intro hV (hO7.trans (bV.mono hO7.size))))
                  clear hcall hV hE bV b1V hcode hkl hi hb17 hb57 hO7
                  go_upto_region 23 with (fail)
                  rw [← HV.out.1, ← HV.out.2.1]
                  clear y0 y1 y2 y3 y4 t0 t1 t2 t3 t4 u0 u1
                  go_wp2_with fail
                  refine Hcall.out.mono ?_
                  rintro e w2' ⟨rfl, hb2⟩
                  have H2 := Lib.hid (HV.out.2.2.trans (hb2.mono HV.out.2.2.size))
                  clear hb2
                  go_wp2_with fail
                  go_roundw
                  case rel => exact ⟨k1 + 1, by omega, by go_num, H2.out⟩
                  case measure => simp [intOf]; omega
                · obtain rfl : k1 = nc := by omega
                  have hkl : k1 - 1 < x.g.code.length := by rw [← Hins.out.2.1]; omega
                  obtain ⟨b8, o8, hca, -, y0, -⟩ := CodeIn.cellg hcode hkl
                  subst hca
                  have hz : x.g.code[k1 - 1] = z := by
                    have h1 := Hins.out.2.2.1
                    rw [List.getElem?_eq_getElem hkl] at h1
                    exact Option.some.inj h1
                  rw [hz, hz2] at y0
                  have hw : IntKind.i64.wrap ((k1 : Int) - 1) = ((k1 - 1 : Nat) : Int) := by rw [Go.IntWalk.i64_in _ (by omega)]; omega
                  have hlt : k1 - 1 < k1 := by omega
                  have HO7 := Lib.hid hb17
                  clear hb17 hb57 hO7 hcode hkl hz hkn hk1
                  go_wp2_with fail
                  go_roundw
                  case rel => exact ⟨i0 + 1, by omega, by go_num, HO7.out⟩
                  case measure => simp [intOf]; omega
            · obtain rfl : i0 = j := by omega
              have sf0 := sf 0
              have sf1 := sf 1
              have sf2 := sf 2
              have HO3 := Lib.hid (H1.out.1.trans (hO3.mono H1.out.1.size))
              have hR : W.heap.size ≤ B + 1 := by rw [HW.out.1]; omega
              obtain ⟨p0, p1, p2⟩ := flt_fill s0 s1 s2 (.int .i64 0) (.int .i64 0) (.int .i64 0)
              have HP := Lib.hid (And.intro p0 (And.intro p1 p2))
              clear hij hi0 hO3 sf p0 p1 p2
              go_wp2_with fail
              refine bodyPost_ret (v := fltV (0, 0, 0)) ?_ rfl ⟨rfl, ((HO3.out.setCell (p := ⟨B + 1, 0, none⟩) hR _).setCell (p := ⟨B + 1, 1, none⟩) hR _).setCell (p := ⟨B + 1, 2, none⟩) hR _⟩
              obtain ⟨p0, p1, p2⟩ := HP.out
              generalize ((W5.setCell ⟨B + 1, 0, none⟩ (.int .i64 0)).setCell ⟨B + 1, 1, none⟩ (.int .i64 0)).setCell ⟨B + 1, 2, none⟩ (.int .i64 0) = V at p0 p1 p2
              simp [results, Tryd.results7, go_sem, p0, p1, p2, fltV]
end Go.Proofs.YtgobcldecokppaaDoor
