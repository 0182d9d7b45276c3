/- soffitlaw22.GenAhead returns true at every api.Program and int, and the inputs read behind the call as they did before. No condition. -/
import Derived.Test.YtgobcldecokppaaGnPre
import Derived.Test.YtgobcldecokppaaRgCut
import Derived.Test.YtgobcldecokppaaRgLift
import Derived.Test.YtgobcldecokppaaGnAwk
import Derived.Test.YtgobcldecokppaaGnSamM
import Derived.IntWalk
/- soffitlaw22.GenAhead: the walk. -/
/- gen: the module of a program's first functions, without thresholds, as a plain law. -/
namespace Go.Proofs.Ytgobcldecokppaa
open Go.RowKit Go.Maps

/-- The program's first functions alone, without thresholds. -/
def Pg.bare (p : Pg) (n : Nat) : Pg := ⟨[], p.funcs.take n⟩
theorem Pg.bare_fault {p : Pg} (n : Nat) (h : p.fault.1 = 0) : (p.bare n).fault = (0, 0, 0) := by
  unfold Pg.fault at h ⊢
  by_cases h0 : p.headErr = 0
  · rw [if_neg (by rw [h0]; decide)] at h
    have e : (p.bare n).headErr = 0 := by
      unfold Pg.headErr at h0 ⊢
      have c := Fn.count_le (l := p.funcs) n
      show (if 16 < ([] : List Int).length then 3 else if leastB [] = true then 1 else if riseB [] = false then 66 else if 32 < (p.funcs.take n).length ∨ 4096 < upto (Fn.count (p.funcs.take n)) then 3 else 0) = 0
      rw [if_neg (by decide), if_neg (by decide), if_neg (by decide)]
      split at h0
      · omega
      split at h0
      · omega
      split at h0
      · omega
      split at h0
      · omega
      rename_i a4
      rw [if_neg]
      rintro (h | h)
      · simp at h; omega
      · unfold upto at h a4; omega
    rw [if_neg (by rw [e]; decide)]
    refine Fn.faults_none fun j y hy => ?_
    have hj : j < n := by have := (List.getElem?_eq_some_iff.1 hy).1; simp [Pg.bare] at this; omega
    have hy2 : p.funcs[j]? = some y := by
      have h : (p.funcs.take n)[j]? = some y := hy
      rwa [List.getElem?_take_of_lt hj] at h
    exact Fn.faults_all h j y hy2
  · rw [if_pos h0] at h; exact absurd h h0
theorem Pg.bare_rfault {p : Pg} (n : Nat) (h : p.rfault.1 = 0) : (p.bare n).rfault = (0, 0, 0) := by
  obtain ⟨h1, h2⟩ := Pg.fault_of_rfault h
  have hb := Pg.bare_fault n h1
  have hn0 : (p.first n).nfault.1 = 0 := by rw [(Pg.first_nfault n h1).1 h2]
  have hn : (p.bare n).nfault.1 = 0 := by
    rw [Pg.nfault_ok (by rw [hb])]
    rw [Pg.nfault_ok (by rw [Pg.first_fault n h1])] at hn0
    exact hn0
  have h3 := (Pg.first_rfault n h1 h2).1 h
  rw [Pg.rfault_ok hn0] at h3
  rw [Pg.rfault_ok hn]
  exact h3
/-- What the module of the first functions is. -/
theorem gmod_bare {p : Pg} (n : Nat) (h : p.rfault.1 = 0) (hn : n ≤ p.funcs.length) : (p.gmod.2.2.1 = 0 → (p.bare n).gmod = ([], p.gmod.2.1.take n, (0, 0, 0))) ∧
    (p.gmod.2.2.1 ≠ 0 → (p.gmod.2.2.2.1 < (n : Int) → (p.bare n).gmod.2.2 = p.gmod.2.2) ∧ ((n : Int) ≤ p.gmod.2.2.2.1 → (p.bare n).gmod.2.2.1 = 0 ∧ (p.bare n).gmod.2.1.length = n)) := by
  have hk := gnAll_take p.funcs n 0 (fun _ => 0)
  rw [show ((0 + n : Nat) : Int) = (n : Int) by omega] at hk
  have hb := Pg.bare_rfault n h
  have hl : (p.funcs.take n).length = n := by simp; omega
  unfold Pg.gmod
  have hz : ¬ p.rfault.1 ≠ 0 := fun e => e h
  have hy : ¬ (p.bare n).rfault.1 ≠ 0 := fun e => e (by rw [hb])
  rw [if_neg hz, if_neg hy]
  by_cases h5 : (gnAll p.funcs 0 (fun _ => 0)).2.1 = 0
  · rw [if_neg (show ¬ (gnAll p.funcs 0 (fun _ => 0)).2.1 ≠ 0 by rw [h5]; decide)]
    refine ⟨fun _ => ?_, fun e => absurd h5 e⟩
    have h6 := hk.1 h5
    show (if (gnAll (p.funcs.take n) 0 (fun _ => 0)).2.1 ≠ 0 then _ else _) = _
    rw [if_neg (by rw [h6]; exact fun e => e rfl)]
    show (([] : List Int), gnAll (p.funcs.take n) 0 (fun _ => 0)) = _
    rw [h6]
  · rw [if_pos h5]
    refine ⟨fun e => absurd e h5, fun _ => ⟨fun e => ?_, fun e => ?_⟩⟩
    · have h6 := (hk.2 h5).1 e
      show (if (gnAll (p.funcs.take n) 0 (fun _ => 0)).2.1 ≠ 0 then (([] : List Int), ([] : List GFun), (gnAll (p.funcs.take n) 0 (fun _ => 0)).2) else ([], gnAll (p.funcs.take n) 0 (fun _ => 0))).2.2 = _
      split
      · exact h6
      · exact h6
    · have h6 := (hk.2 h5).2 e
      show (if (gnAll (p.funcs.take n) 0 (fun _ => 0)).2.1 ≠ 0 then (([] : List Int), ([] : List GFun), (gnAll (p.funcs.take n) 0 (fun _ => 0)).2) else ([], gnAll (p.funcs.take n) 0 (fun _ => 0))).2.2.1 = 0 ∧ (if (gnAll (p.funcs.take n) 0 (fun _ => 0)).2.1 ≠ 0 then (([] : List Int), ([] : List GFun), (gnAll (p.funcs.take n) 0 (fun _ => 0)).2) else ([], gnAll (p.funcs.take n) 0 (fun _ => 0))).2.1.length = n
      rw [if_neg (by rw [h6]; decide)]
      exact ⟨h6, by rw [(gnAll_right _ _ _ h6).2, hl]⟩
theorem gmod_bad {p : Pg} (h : p.rfault.1 ≠ 0) : p.gmod = ([], [], p.rfault) := by unfold Pg.gmod; rw [if_pos h]
theorem gmod_funcs {p : Pg} (h : p.gmod.2.2.1 = 0) : p.gmod.2.1.length = p.funcs.length ∧ p.gmod.1 = p.widen := by
  unfold Pg.gmod at h ⊢
  by_cases h0 : p.rfault.1 = 0
  · rw [if_neg (by rw [h0]; decide)] at h ⊢
    by_cases h5 : (gnAll p.funcs 0 (fun _ => 0)).2.1 = 0
    · rw [if_neg (by rw [h5]; decide)] at h ⊢
      exact ⟨(gnAll_right _ _ _ h5).2, rfl⟩
    · rw [if_pos h5] at h; exact absurd h h5
  · rw [if_pos h0] at h; exact absurd h h0
theorem Pg.bare_rng {p : Pg} (h : p.rng) (n : Nat) : (p.bare n).rng := fun f hf => h f (List.mem_of_mem_take hf)
theorem PgIn.bare {w : World} {p : Pg} {vw : Value} {a : Option Addr} {m cap : Nat} {vp vb : Nat → Value} (h : PgIn w p vw (.slice a m cap) vp vb) {n : Nat} (hn : n ≤ p.funcs.length) : PgIn w (p.bare n) (.slice none 0 0) (.slice a n n) vp vb := by
  have h2 := PgIn.first h hn
  refine ⟨?_, h2.funcs⟩
  exact ⟨rfl, none, 0, rfl, Nat.le_refl _, Nat.zero_le _, fun _ => rfl, fun h => absurd h (Nat.lt_irrefl _)⟩
end Go.Proofs.Ytgobcldecokppaa

namespace Go.Proofs.Ytgobcldecokppaa
open Go.RowKit Go.Maps

theorem eql_flt (w : World) (a b c : Int) : (Go.binOp .eql 32 (.agg #[.int .i64 a, .int .i64 b, .int .i64 c]) (.agg #[.int .i64 a, .int .i64 b, .int .i64 c])).run Try.prog w = .ok (.bool true) w := by
  simp [go_sem, Try.underlying32, Try.underlying3, Try.underlying30]
set_option maxRecDepth 100000 in
set_option maxHeartbeats 8000000 in
theorem gnLawAhead_any (W : World) (p : Pg) (vw vf : Value) (vp vb : Nat → Value) (k : Int) (h : PgIn W p vw vf vp vb) (_ : p.near) (hrg : p.rng) (hk : in64 k) : Calls Try.prog 4 #[pgV vw vf, .int .i64 k] W (Gives (.bool true) W) := by
  obtain ⟨aw, cw, rfl, -⟩ := h.widen.row.form
  obtain ⟨a, cap, rfl, hc1, hc2⟩ := h.funcs.row.form
  obtain ⟨n, hn⟩ : ∃ n, n = p.funcs.length := ⟨_, rfl⟩
  obtain ⟨m, hm⟩ : ∃ m, m = p.widen.length := ⟨_, rfl⟩
  rw [← hn, ← hm] at h
  rw [← hn, ← hm]
  rw [← hn] at hc1
  have hn62 : cap ≤ 9223372036854775807 := by have : maxLen ≤ 9223372036854775807 := by decide
                                              omega
  have HP := Lib.hid h
  have Hrg := Lib.hid hrg
  have hk2 : -9223372036854775808 ≤ k ∧ k ≤ 9223372036854775807 := hk
  have Hl := Lib.hid (And.intro hm hn)
  obtain ⟨W1, hW1⟩ : ∃ W1, W1 = W.alloc (.cells #[.slice aw m cw, .slice a n cap] 26) := ⟨_, rfl⟩
  obtain ⟨B, hB⟩ : ∃ B, B = W.heap.size := ⟨_, rfl⟩
  have hb1 : Below W.heap.size W W1 := by rw [hW1]; exact (Below.refl _ _).alloc (Nat.le_refl _) _
  have c0 : W1.cell? ⟨B, 0, none⟩ = some (.slice aw m cw) := by rw [hW1, hB]; exact World.cell?_alloc_at _ _ _ _ rfl
  have c1 : W1.cell? ⟨B, 1, none⟩ = some (.slice a n cap) := by rw [hW1, hB]; exact World.cell?_alloc_at _ _ _ _ rfl
  have qB : B < W1.heap.size := by rw [hW1, hB]; simp
  have HW1 := Lib.hid (And.intro hW1 hB)
  have H1 := Lib.hid (And.intro hb1 (And.intro c0 c1))
  unfold pgV
  clear h hn hm hrg hk hW1 hB hb1 c0 c1
  go_enter Try.func4, Try.ntmps4
  go_upto_region 1 with (fail)
  rw [← HW1.out.1, ← HW1.out.2]
  go_wp2_with fail
  refine (gnAwake_any W1).mono ?_
  rintro e w2 ⟨rfl, hb2⟩
  have d0 := (hb2.cell (p := ⟨B, 0, none⟩) qB).trans H1.out.2.1
  have d1 := (hb2.cell (p := ⟨B, 1, none⟩) qB).trans H1.out.2.2
  have H2 := Lib.hid (And.intro (H1.out.1.trans (hb2.mono H1.out.1.size)) (And.intro d0 d1))
  have q2 : B < w2.heap.size := Nat.lt_of_lt_of_le qB hb2.size
  clear hb2
  have hcall := gmod_any p (.slice aw m cw) (.slice a n cap) vp vb w2 (HP.out.later H2.out.1) Hrg.out
  obtain ⟨t, ht⟩ : ∃ t, t = p.gmod.2.2 := ⟨_, rfl⟩
  rw [← ht] at hcall
  have Ht := Lib.hid ht
  obtain ⟨ea, eb, ec⟩ := t
  unfold pgV fltV at hcall
  simp only at hcall
  have Hcall := Lib.hid hcall
  clear hcall ht
  go_wp2_with fail
  refine Hcall.out.mono ?_
  rintro E w3 ⟨vt, vm, rfl, hb3, l, hl, hG⟩
  obtain ⟨-, ta, tc, rfl, -⟩ := SliceIn.of_owns hG.thr
  obtain ⟨-, ma, mc, rfl, hmc, hmx, -⟩ := SliceIn.of_owns hG.row
  obtain ⟨tn, htn⟩ : ∃ tn, tn = p.gmod.1.length := ⟨_, rfl⟩
  obtain ⟨mn, hmn⟩ : ∃ mn, mn = l.length := ⟨_, rfl⟩
  have hG := hG.reads
  rw [← htn, ← hmn] at hG ⊢
  rw [← hmn] at hmc
  have hm62 : mc ≤ 9223372036854775807 := by have : maxLen ≤ 9223372036854775807 := by decide
                                             omega
  obtain ⟨V1, hV1⟩ : ∃ w : World, w = w3.alloc (.cells #[.slice ta tn tc, .slice ma mn mc] 29) := ⟨_, rfl⟩
  obtain ⟨V2, hV2⟩ : ∃ w : World, w = V1.alloc (.cells #[.int .i64 ea, .int .i64 eb, .int .i64 ec] 32) := ⟨_, rfl⟩
  obtain ⟨M, hM⟩ : ∃ M, M = w3.heap.size := ⟨_, rfl⟩
  have z1 : V1.heap.size = M + 1 := by rw [hV1, hM]; simp
  have z2 : V2.heap.size = M + 2 := by rw [hV2]; simp [z1]
  have a1 : Below w3.heap.size w3 V1 := by rw [hV1]; exact (Below.refl _ _).alloc (Nat.le_refl _) _
  have a2 : Below V1.heap.size V1 V2 := by rw [hV2]; exact (Below.refl _ _).alloc (Nat.le_refl _) _
  have a12 : Below w3.heap.size w3 V2 := a1.trans (a2.mono a1.size)
  have b23 : Below w2.heap.size w2 V2 := hb3.trans (a12.mono hb3.size)
  have qM : M < V1.heap.size := by omega
  have g0 : V2.cell? ⟨M, 0, none⟩ = some (.slice ta tn tc) := by
    have h0 : V1.cell? ⟨M, 0, none⟩ = some (.slice ta tn tc) := by rw [hV1]; exact World.cell?_alloc_at _ _ _ _ hM
    exact (a2.cell (p := ⟨M, 0, none⟩) qM).trans h0
  have g1 : V2.cell? ⟨M, 1, none⟩ = some (.slice ma mn mc) := by
    have h0 : V1.cell? ⟨M, 1, none⟩ = some (.slice ma mn mc) := by rw [hV1]; exact World.cell?_alloc_at _ _ _ _ hM
    exact (a2.cell (p := ⟨M, 1, none⟩) qM).trans h0
  have gf : ∀ j, V2.frozen? ⟨M, j, none⟩ = false := fun j => by
    have h0 : V1.frozen? ⟨M, j, none⟩ = false := by rw [hV1]; exact World.frozen?_alloc_at _ _ _ _ hM
    exact (a2.frozen (p := ⟨M, j, none⟩) qM).trans h0
  have f0 : V2.cell? ⟨M + 1, 0, none⟩ = some (.int .i64 ea) := by rw [hV2]; exact World.cell?_alloc_at _ _ _ _ z1.symm
  have f1 : V2.cell? ⟨M + 1, 1, none⟩ = some (.int .i64 eb) := by rw [hV2]; exact World.cell?_alloc_at _ _ _ _ z1.symm
  have f2 : V2.cell? ⟨M + 1, 2, none⟩ = some (.int .i64 ec) := by rw [hV2]; exact World.cell?_alloc_at _ _ _ _ z1.symm
  have e0 := (b23.cell (p := ⟨B, 0, none⟩) q2).trans d0
  have e1 := (b23.cell (p := ⟨B, 1, none⟩) q2).trans d1
  have HWM : Hid (W.heap.size ≤ M) := by rw [hM]; exact Nat.le_trans H2.out.1.size hb3.size
  have H3 := Lib.hid (And.intro (H2.out.1.trans (b23.mono H2.out.1.size)) (And.intro a12 (And.intro hG (And.intro hl hmn))))
  have Hgf := Lib.hid gf
  have HV := Lib.hid (And.intro hM (And.intro hV1 hV2))
  have HMs : Hid (M < V2.heap.size ∧ M = w3.heap.size) := ⟨by omega, hM⟩
  clear a1 a2 a12 b23 hV1 hV2 hM hb3 hG hl hmn htn d0 d1 Hcall z1 z2 qM gf hmx
  go_upto_region 4 with (fail)
  rw [← HV.out.1, ← HV.out.2.1, ← HV.out.2.2]
  have hcall := rgCheck_any p (.slice aw m cw) (.slice a n cap) vp vb V2 (HP.out.later H3.out.1) Hrg.out
  obtain ⟨u, hu⟩ : ∃ u, u = p.rfault := ⟨_, rfl⟩
  rw [← hu] at hcall
  have Hu := Lib.hid hu
  obtain ⟨ra, rb, rc⟩ := u
  unfold pgV fltV at hcall
  simp only at hcall
  have Hcall := Lib.hid hcall
  have hfe := rgRun_faultE
  clear hcall hu
  go_wp2_with fail
  refine Hcall.out.mono ?_
  rintro e w4 ⟨rfl, hb4⟩
  have i0 := (hb4.cell (p := ⟨B, 0, none⟩) (block_lt_of_cell e0)).trans e0
  have i1 := (hb4.cell (p := ⟨B, 1, none⟩) (block_lt_of_cell e1)).trans e1
  have j0 := (hb4.cell (p := ⟨M, 0, none⟩) (block_lt_of_cell g0)).trans g0
  have j1 := (hb4.cell (p := ⟨M, 1, none⟩) (block_lt_of_cell g1)).trans g1
  have l0 := (hb4.cell (p := ⟨M + 1, 0, none⟩) (block_lt_of_cell f0)).trans f0
  have l1 := (hb4.cell (p := ⟨M + 1, 1, none⟩) (block_lt_of_cell f1)).trans f1
  have l2 := (hb4.cell (p := ⟨M + 1, 2, none⟩) (block_lt_of_cell f2)).trans f2
  have H4 := Lib.hid (And.intro (H3.out.1.trans (hb4.mono H3.out.1.size)) (And.intro (H3.out.2.1.trans (hb4.mono H3.out.2.1.size)) (fun j => (hb4.frozen (p := ⟨M, j, none⟩) HMs.out.1).trans (Hgf.out j))))
  have HM4 : Hid (M < w4.heap.size) := Nat.lt_of_lt_of_le HMs.out.1 hb4.size
  clear hb4 e0 e1 g0 g1 f0 f1 f2 Hcall
  by_cases hr0 : ra = 0
  · subst hr0
    have hrf : p.rfault.1 = 0 := by rw [← Hu.out]
    have Hrf := Lib.hid hrf
    clear hrf
    go_upto_region 7 with (fail)
    obtain ⟨j, hj⟩ : ∃ j : Nat, (j : Int) = max 0 (min k (n : Int)) := ⟨(max 0 (min k (n : Int))).toNat, by omega⟩
    rw [← hj]
    have hjn : j ≤ n := by omega
    have hjc : j ≤ cap := by omega
    clear hj
    have Hcut := Lib.hid (gmod_bare (p := p) j Hrf.out (by rw [← Hl.out.2]; exact hjn))
    have hcall := gmod_any (p.bare j) (.slice none 0 0) (.slice a j j) vp vb w4 (PgIn.bare (HP.out.later H4.out.1) (by rw [← Hl.out.2]; exact hjn)) (Pg.bare_rng Hrg.out j)
    obtain ⟨t, ht⟩ : ∃ t, t = (p.bare j).gmod.2.2 := ⟨_, rfl⟩
    rw [← ht] at hcall
    have Htb := Lib.hid ht
    obtain ⟨xa, xb, xc⟩ := t
    unfold pgV fltV at hcall
    simp only at hcall
    have Hcall := Lib.hid hcall
    clear hcall ht
    go_wp2_with fail
    refine Hcall.out.mono ?_
    rintro E w5 ⟨vt2, vm2, rfl, hb5, l', hl', hG2⟩
    obtain ⟨-, sa, sc, rfl, -⟩ := SliceIn.of_owns hG2.thr
    obtain ⟨-, na, nc, rfl, hnc, hnx, -⟩ := SliceIn.of_owns hG2.row
    obtain ⟨sn, hsn⟩ : ∃ sn, sn = (p.bare j).gmod.1.length := ⟨_, rfl⟩
    obtain ⟨nn, hnn⟩ : ∃ nn, nn = l'.length := ⟨_, rfl⟩
    rw [← hsn, ← hnn] at hG2 ⊢
    rw [← hnn] at hnc
    obtain ⟨V3, hV3⟩ : ∃ w : World, w = w5.alloc (.cells #[.slice sa sn sc, .slice na nn nc] 29) := ⟨_, rfl⟩
    obtain ⟨V4, hV4⟩ : ∃ w : World, w = V3.alloc (.cells #[.int .i64 xa, .int .i64 xb, .int .i64 xc] 32) := ⟨_, rfl⟩
    obtain ⟨N, hN⟩ : ∃ N, N = w5.heap.size := ⟨_, rfl⟩
    have z1 : V3.heap.size = N + 1 := by rw [hV3, hN]; simp
    have a1 : Below w5.heap.size w5 V3 := by rw [hV3]; exact (Below.refl _ _).alloc (Nat.le_refl _) _
    have a2 : Below V3.heap.size V3 V4 := by rw [hV4]; exact (Below.refl _ _).alloc (Nat.le_refl _) _
    have a12 : Below w5.heap.size w5 V4 := a1.trans (a2.mono a1.size)
    have b45 : Below w4.heap.size w4 V4 := hb5.trans (a12.mono hb5.size)
    have qN : N < V3.heap.size := by omega
    have g0 : V4.cell? ⟨N, 0, none⟩ = some (.slice sa sn sc) := by
      have h0 : V3.cell? ⟨N, 0, none⟩ = some (.slice sa sn sc) := by rw [hV3]; exact World.cell?_alloc_at _ _ _ _ hN
      exact (a2.cell (p := ⟨N, 0, none⟩) qN).trans h0
    have g1 : V4.cell? ⟨N, 1, none⟩ = some (.slice na nn nc) := by
      have h0 : V3.cell? ⟨N, 1, none⟩ = some (.slice na nn nc) := by rw [hV3]; exact World.cell?_alloc_at _ _ _ _ hN
      exact (a2.cell (p := ⟨N, 1, none⟩) qN).trans h0
    have f0 : V4.cell? ⟨N + 1, 0, none⟩ = some (.int .i64 xa) := by rw [hV4]; exact World.cell?_alloc_at _ _ _ _ z1.symm
    have f1 : V4.cell? ⟨N + 1, 1, none⟩ = some (.int .i64 xb) := by rw [hV4]; exact World.cell?_alloc_at _ _ _ _ z1.symm
    have f2 : V4.cell? ⟨N + 1, 2, none⟩ = some (.int .i64 xc) := by rw [hV4]; exact World.cell?_alloc_at _ _ _ _ z1.symm
    have y0 := (b45.cell (p := ⟨M, 0, none⟩) (block_lt_of_cell j0)).trans j0
    have y1 := (b45.cell (p := ⟨M, 1, none⟩) (block_lt_of_cell j1)).trans j1
    have u0 := (b45.cell (p := ⟨M + 1, 0, none⟩) (block_lt_of_cell l0)).trans l0
    have u1 := (b45.cell (p := ⟨M + 1, 1, none⟩) (block_lt_of_cell l1)).trans l1
    have u2 := (b45.cell (p := ⟨M + 1, 2, none⟩) (block_lt_of_cell l2)).trans l2
    have H5 := Lib.hid (And.intro (H4.out.1.trans (b45.mono H4.out.1.size)) (And.intro (H4.out.2.1.trans (b45.mono H4.out.2.1.size)) (fun j => (b45.frozen (p := ⟨M, j, none⟩) HM4.out).trans (H4.out.2.2 j))))
    have HG2 := Lib.hid (And.intro (hG2.oth (T := fun _ => False) (Oth.of_below a12) (fun _ h => h.elim)) (And.intro hl' hnn))
    have HV4 := Lib.hid (And.intro hN (And.intro hV3 hV4))
    have HMN : Hid (M < N ∧ N < V4.heap.size) := by
      have h1 := hb5.size; have h2 := a2.size; have h3 := HM4.out
      exact ⟨by omega, by omega⟩
    clear a1 a2 a12 b45 hV3 hV4 hN hb5 hG2 hl' hnn hsn Hcall z1 qN hnx hnc i0 i1 j0 j1 l0 l1 l2
    go_upto_region 8 with (fail)
    rw [← HV4.out.1, ← HV4.out.2.1, ← HV4.out.2.2]
    by_cases hea : ea = 0
    · subst hea
      have hb := Hcut.out.1 (by rw [← Ht.out])
      have hx : (xa, xb, xc) = (0, 0, 0) := by rw [Htb.out, hb]
      cases hx
      have hlen : mn = n := by
        have e := congrArg List.length H3.out.2.2.2.1
        rw [List.length_map, ← H3.out.2.2.2.2, (gmod_funcs (p := p) (by rw [← Ht.out])).1, ← Hl.out.2] at e
        exact e
      have hnj : nn = j := by
        have e := congrArg List.length HG2.out.2.1
        rw [List.length_map, ← HG2.out.2.2, hb] at e
        rw [e]
        have h4 := (gmod_funcs (p := p) (by rw [← Ht.out])).1
        simp only [List.length_take, h4, ← Hl.out.2]
        omega
      have he : (l.take j).map GR.g = l'.map GR.g := by rw [HG2.out.2.1, hb, List.map_take, H3.out.2.2.2.1]
      have He := Lib.hid he
      have hth : (p.bare j).gmod.1 = [] := by rw [hb]
      have Hth := Lib.hid hth
      obtain rfl := hnj
      have hjm : nn ≤ mn := by omega
      have hjmc : nn ≤ mc := by omega
      have hfr0 := H5.out.2.2 0
      have hfr1 := H5.out.2.2 1
      clear hb he hth hlen
      go_upto_region 14 with (fail)
      obtain ⟨V5, hV5⟩ : ∃ V5, V5 = V4.setCell ⟨M, 0, none⟩ (.slice none 0 0) := ⟨_, rfl⟩
      obtain ⟨V6, hV6⟩ : ∃ V6, V6 = V5.setCell ⟨M, 1, none⟩ (.slice ma nn mc) := ⟨_, rfl⟩
      have ne : (⟨M, 0, none⟩ : Addr) ≠ ⟨M, 1, none⟩ := by intro e; injection e with _ e2; cases e2
      have v1 : V5.cell? ⟨M, 1, none⟩ = some (.slice ma mn mc) := by rw [hV5]; exact (World.cell?_setCell_other _ _ _ _ ne).trans y1
      have vf1 : V5.frozen? ⟨M, 1, none⟩ = false := by rw [hV5]; exact (World.frozen?_setCell _ _ _ _).trans hfr1
      have o5 : Oth (· = M) V4 V5 := by rw [hV5]; exact (Oth.refl (· = M) V4).set (p := ⟨M, 0, none⟩) rfl _
      have o6 : Oth (· = M) V4 V6 := by rw [hV6]; exact o5.set (p := ⟨M, 1, none⟩) rfl _
      have w0 : V6.cell? ⟨M, 0, none⟩ = some (.slice none 0 0) := by rw [hV6]; exact (World.cell?_setCell_other _ _ _ _ (fun e => ne e.symm)).trans (by rw [hV5]; exact World.cell?_setCell_same' _ _ _ (by rw [y0]; rfl))
      have w1 : V6.cell? ⟨M, 1, none⟩ = some (.slice ma nn mc) := by rw [hV6]; exact World.cell?_setCell_same' _ _ _ (by rw [v1]; rfl)
      have r0 := (o6.cell (p := ⟨N, 0, none⟩) HMN.out.2 (by have := HMN.out.1; show ¬ N = M; omega)).trans g0
      have r1 := (o6.cell (p := ⟨N, 1, none⟩) HMN.out.2 (by have := HMN.out.1; show ¬ N = M; omega)).trans g1
      have b36 : Below w3.heap.size w3 V6 := by
        rw [hV6, hV5]
        exact (H5.out.2.1.setCell (p := ⟨M, 0, none⟩) (by rw [HMs.out.2]; exact Nat.le_refl _) _).setCell (p := ⟨M, 1, none⟩) (by rw [HMs.out.2]; exact Nat.le_refl _) _
      have b06 : Below W.heap.size W V6 := by
        have q0 : W.heap.size ≤ M := HWM.out
        rw [hV6, hV5]
        exact (H5.out.1.setCell (p := ⟨M, 0, none⟩) q0 _).setCell (p := ⟨M, 1, none⟩) q0 _
      have hm1 := (H3.out.2.2.1.later b36).take (n := nn) (by rw [← H3.out.2.2.2.2]; exact hjm)
      have hm2 := (HG2.out.1.oth (T := (· = M)) o6 (fun k e => by have := HM4.out; omega)).reads
      rw [Hth.out] at hm2
      have Hcall := Lib.hid (csame_true (l.take nn) l' (.slice ma nn mc) (.slice na nn nc) (.slice none 0 0) (.slice sa sn sc) [] V6 hm1 hm2 He.out)
      have HV6 := Lib.hid (And.intro hV5 (And.intro hV6 b06))
      clear hV5 hV6 o5 o6 b36 b06 hm1 hm2 ne
      go_upto_region 15 with (fail)
      rw [← HV6.out.1]
      go_upto_region 16 with (fail)
      rw [← HV6.out.2.1]
      go_wp2_with fail
      refine Hcall.out.mono ?_
      rintro e w6 ⟨rfl, hb6⟩
      have H6 := Lib.hid (HV6.out.2.2.trans (hb6.mono HV6.out.2.2.size))
      clear hb6
      go_wp2_with fail
      go_ret
      exact ⟨rfl, H6.out⟩
    · have hb := Hcut.out.2 (by rw [← Ht.out]; exact hea)
      rw [← Ht.out] at hb
      by_cases hlt : eb < (j : Int)
      · have hx : (xa, xb, xc) = (ea, eb, ec) := by rw [Htb.out, hb.1 hlt]
        cases hx
        have hef := eql_flt
        clear hb
        go_wp2_with fail
        go_ret
        exact ⟨rfl, H5.out.1⟩
      · obtain ⟨h1, h2⟩ := hb.2 (by show (j : Int) ≤ eb; omega)
        have hxa : xa = 0 := by rw [← Htb.out] at h1; exact h1
        have hnj : nn = j := by
          have e := congrArg List.length HG2.out.2.1
          rw [List.length_map, ← HG2.out.2.2, h2] at e
          exact e
        subst hxa
        obtain rfl := hnj
        clear hb h1 h2
        go_wp2_with fail
        go_ret
        exact ⟨rfl, H5.out.1⟩
  · have hea : ea ≠ 0 := by
      have h1 := gmod_bad (p := p) (by rw [← Hu.out]; exact hr0)
      have h2 := Ht.out
      rw [h1, ← Hu.out] at h2
      injection h2 with h3
      rw [h3]; exact hr0
    have hbe : (ea != 0) = true := by simpa using hea
    go_wp2_with fail
    go_ret
    exact ⟨rfl, H4.out.1⟩
end Go.Proofs.Ytgobcldecokppaa

namespace Go.Proofs.Ytgobcldecokppaa
open Go.Joins Go.ChangeShapes Go.WideShapes Go.ChangeAt Go.RowKit Go.Deep

set_option maxRecDepth 100000 in
theorem genAhead_lifted (os : Os) (started : os.Started) (H : Type) (enc : TypeId × Value → H) :
    ReturnsInHanded {} Try.checked os 4 .any (Rows.genAheadSpec.pre6 enc Try.prog Try.f4 Rows.genAheadRow.domain false) (Rows.genAheadSpec.post enc Try.prog Try.f4 false true false false) :=
  lift_r_int started (by kernel_rfl) Try.func4 rfl rfl rfl (fun _ _ => rfl)
    (ChangeSpec.witness6 (enc := enc) (C := Try.checked) false ⟨#[], #[.agg #[.slice none 0 0, .slice none 0 0], .int .i64 0], []⟩ 8 (by kernel_rfl) (by kernel_rfl) (by kernel_rfl) (by kernel_rfl))
    gnLawAhead_any

theorem genAhead_holds : Rows.GenAheadSaid :=
  OpenClaim.holds_of_wide 4 Try.f4 rfl rfl rfl rfl rfl rfl rfl ⟨rfl, rfl, rfl, rfl, rfl⟩ rfl rfl rfl rfl rfl (by kernel_rfl) Try.func4 (by kernel_rfl)
    (of_decide_eq_true (by kernel_rfl)) (by unfold Func.isWrapper; first | (rw [if_pos (by decide +kernel)]; kernel_rfl) | (rw [if_neg (by decide +kernel)]; exact ⟨rfl, rfl⟩))
    (fun os started H enc _ => genAhead_lifted os started H enc)
end Go.Proofs.Ytgobcldecokppaa
