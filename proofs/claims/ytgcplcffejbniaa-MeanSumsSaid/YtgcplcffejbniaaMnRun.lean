/- mean: Run, where the first function is called. -/
import Derived.Test.YtgcplcffejbniaaMnCall
import Derived.Test.YtgcplcffejbniaaRgCheck
namespace Go.Proofs.Ytgcplcffejbniaa
open Go.RowKit Go.Maps

theorem mbytes_eqb (a b : ByteArray) : (a.toList == b.toList) = decide (a = b) := by
  rw [ByteArray.toList_eq, ByteArray.toList_eq, Bool.eq_iff_iff, beq_iff_eq, decide_eq_true_eq]
  constructor
  · intro h
    have : a.data = b.data := Array.toList_inj.1 h
    cases a; cases b; simp_all
  · intro h; rw [h]
set_option maxRecDepth 100000 in
set_option maxHeartbeats 1000000 in
theorem find1_any (f : Fn) (ap ab : Option Addr) (np cp nb cb : Nat) (nm : Nat) (V : World) (h : V.cell? ⟨nm, 0, none⟩ = some (.string f.name)) : Calls Try.prog 75 #[.agg #[.string f.name, .slice ap np cp, .slice ab nb cb], .pointer (some ⟨nm, 0, none⟩)] V (Gives (.bool true) V) := by
  obtain ⟨W1, hW1⟩ : ∃ W1, W1 = V.alloc (.cells #[.string f.name, .slice ap np cp, .slice ab nb cb] 40) := ⟨_, rfl⟩
  obtain ⟨D, hD⟩ : ∃ D, D = V.heap.size := ⟨_, rfl⟩
  have hb1 : Below V.heap.size V W1 := by rw [hW1]; exact (Below.refl _ _).alloc (Nat.le_refl _) _
  have d0 : W1.cell? ⟨D, 0, none⟩ = some (.string f.name) := by rw [hW1, hD]; exact World.cell?_alloc_at _ _ _ _ rfl
  have e0 := (hb1.cell (p := ⟨nm, 0, none⟩) (block_lt_of_cell h)).trans h
  have HW1 := Lib.hid (And.intro hW1 hD)
  have Hb1 := Lib.hid hb1
  have hq : (f.name.toList == f.name.toList) = true := by rw [mbytes_eqb]; exact decide_eq_true rfl
  clear h hW1 hD hb1
  go_enter Try.func75, Try.ntmps75
  go_upto_region 1 with (fail)
  rw [← HW1.out.2, ← HW1.out.1]
  go_wp2_with (go_quiet (fail))
  go_ret
  exact ⟨by first | rfl | simp, by first | exact Hb1.out | exact below_drewN Hb1.out _⟩
set_option maxRecDepth 100000 in
set_option maxHeartbeats 2000000 in
theorem indexFn_any (F : List Fn) (f : Fn) (hf0 : F[0]? = some f) (g o cap : Nat) (vp vb : Nat → Value) (nm : Nat) (w0 W : World) (hF : FnsIn w0 F (.slice (some ⟨g, o, none⟩) F.length cap) vp vb) (hB : Below w0.heap.size w0 W) (h : W.cell? ⟨nm, 0, none⟩ = some (.string f.name)) :
    Calls Try.prog 74 #[.slice (some ⟨g, o, none⟩) F.length cap, .func (.func 75) #[] #[.pointer (some ⟨nm, 0, none⟩)]] W (Gives (.int .i64 0) W) := by
  obtain ⟨n, hn⟩ : ∃ n, n = F.length := ⟨_, rfl⟩
  have hn0 : 0 < n := by rw [hn]; exact (List.getElem?_eq_some_iff.1 hf0).1
  obtain ⟨b, off, he, hb, hP⟩ := hF.row.at (i := 0) (by rw [← hn]; exact hn0)
  cases he
  have hc := (hP f hf0).later hB hb
  obtain ⟨ap, cp, hvp, -⟩ := (hF.params 0 f hf0).form
  obtain ⟨ab, cb, hvb, -⟩ := (hF.body 0 f hf0).form
  obtain ⟨np, hnp⟩ : ∃ n, n = f.params.length := ⟨_, rfl⟩
  obtain ⟨nb, hnb⟩ : ∃ n, n = f.body.length := ⟨_, rfl⟩
  rw [hvp, hvb, ← hnp, ← hnb] at hc
  simp only [Nat.zero_mul, Nat.add_zero] at hc
  obtain ⟨c0, c1, c2⟩ := hc
  have Hcall := Lib.hid (find1_any f ap ab np cp nb cb nm W h)
  rw [← hn]
  clear hF hP hvp hvb hnp hnb hn hf0 hB
  go_enter Try.func74, Try.ntmps74
  go_wp2_with fail
  go_loopg [8] 1 (fun g iv wx => g = 1 ∧ iv = .int .i64 0 ∧ wx = W)
  case atStart => exact ⟨rfl, rfl, rfl⟩
  case round =>
    obtain ⟨hg, rfl, rfl⟩ := hrel
    clear hg
    go_wp2_with fail
    refine Hcall.out.mono ?_
    rintro E w2 ⟨rfl, hb2⟩
    have Hb2 := Lib.hid hb2
    clear hb2
    go_wp2_with fail
    go_ret
    exact ⟨rfl, Hb2.out⟩
set_option maxRecDepth 100000 in
set_option maxHeartbeats 2000000 in
theorem find_any (F : List Fn) (f : Fn) (hf0 : F[0]? = some f) (g o cap : Nat) (vp vb : Nat → Value) (w0 W : World) (hF : FnsIn w0 F (.slice (some ⟨g, o, none⟩) F.length cap) vp vb) (hB : Below w0.heap.size w0 W) (r : Nat) (vw : Value) (most n e : Int) (hR : RnAt W r vw (.slice (some ⟨g, o, none⟩) F.length cap) most n e) :
    Calls Try.prog 46 #[ptrV r, .string f.name] W (Gives (.pointer (some ⟨g, o, none⟩)) W) := by
  obtain ⟨W1, hW1⟩ : ∃ W1, W1 = W.alloc (.cells #[.string f.name] 9) := ⟨_, rfl⟩
  obtain ⟨D, hD⟩ : ∃ D, D = W.heap.size := ⟨_, rfl⟩
  have hb1 : Below W.heap.size W W1 := by rw [hW1]; exact (Below.refl _ _).alloc (Nat.le_refl _) _
  have d0 : W1.cell? ⟨D, 0, none⟩ = some (.string f.name) := by rw [hW1, hD]; exact World.cell?_alloc_at _ _ _ _ rfl
  have HR1 := Lib.hid (hR.later hb1)
  have Hcall := Lib.hid (indexFn_any F f hf0 g o cap vp vb D w0 W1 hF (hB.trans (hb1.mono hB.size)) d0)
  obtain ⟨n', hn'⟩ : ∃ n, n = F.length := ⟨_, rfl⟩
  have hn0 : 0 < n' := by rw [hn']; exact (List.getElem?_eq_some_iff.1 hf0).1
  rw [← hn'] at Hcall HR1
  have c1 := HR1.out.c1
  have hrin := HR1.out.in
  have HW1 := Lib.hid (And.intro hW1 hD)
  have Hb1 := Lib.hid hb1
  clear hR hF hB hW1 hD hb1 d0 hn' hf0
  go_enter Try.func46, Try.ntmps46
  go_upto_region 1 with (fail)
  rw [← HW1.out.2, ← HW1.out.1]
  go_wp2_with fail
  refine Hcall.out.mono ?_
  rintro E w2 ⟨rfl, hb2⟩
  have Hb2 := Lib.hid (Hb1.out.trans (hb2.mono Hb1.out.size))
  have d1 := (hb2.cell (p := ⟨r, 1, none⟩) hrin).trans c1
  clear hb2 c1 Hcall
  go_wp2_with fail
  go_ret
  exact ⟨rfl, Hb2.out⟩
/-- What Run answers. -/
def meanT (f : Fn) (l : List Int) (most : Int) : Flt :=
  if fitsB f.params l = true then
    ((runsS most f.body ⟨parV f.params l f.params.length, 0, 1, 0⟩).2.e, if (runsS most f.body ⟨parV f.params l f.params.length, 0, 1, 0⟩).2.e ≠ 0 then 0 else (runsS most f.body ⟨parV f.params l f.params.length, 0, 1, 0⟩).2.v, (runsS most f.body ⟨parV f.params l f.params.length, 0, 1, 0⟩).2.r)
  else (2, 0, 0)
set_option maxRecDepth 100000 in
set_option maxHeartbeats 4000000 in
theorem mrun_any (p : Pg) (vw vf : Value) (vp vb : Nat → Value) (W : World) (h : PgIn W p vw vf vp vb) (hrg : p.rng) (hrf : p.rfault = (0, 0, 0)) (f : Fn) (hf0 : p.funcs[0]? = some f) (va : Value) (l : List Int) (ha : IntsIn W va l) (hl64 : ∀ z ∈ l, in64 z) (N : List ByteArray) (hN : N.length ≤ 1000) (hpn : ∀ p ∈ f.params, p.name ∈ N ∧ p.name.size ≤ 16) (hs : St.simps N f.body)
    (most : Int) (h1 : 1 ≤ most) (hmost : most ≤ 9223372036854775807) :
    Calls Try.prog 27 #[pgV vw vf, .string f.name, va, .int .i64 most] W (Gives (fltV (meanT f l most)) W) := by
  obtain ⟨hw, hr, hpp, hbb⟩ := id h
  obtain ⟨aw, cw, rfl, hwc, hwc2⟩ := hw.row.form
  obtain ⟨_, aa, ca, rfl, hac1, hac2, -⟩ := id ha
  obtain ⟨g, o, cap, rfl⟩ : ∃ g o cap, vf = .slice (some ⟨g, o, none⟩) p.funcs.length cap := by
    obtain ⟨a, cap, rfl, -⟩ := hr.form
    obtain ⟨b, off, rfl, -⟩ := hr.at (i := 0) (List.getElem?_eq_some_iff.1 hf0).1
    exact ⟨_, _, _, rfl⟩
  have hfc : FnCells W g o f (vp 0) (vb 0) ∧ g < W.heap.size := by
    obtain ⟨b, off, he, hb, hP⟩ := hr.at (i := 0) (List.getElem?_eq_some_iff.1 hf0).1
    cases he
    have := hP f hf0
    simp only [Nat.zero_mul, Nat.add_zero] at this
    exact ⟨this, hb⟩
  obtain ⟨n, hn⟩ : ∃ n, n = p.funcs.length := ⟨_, rfl⟩
  obtain ⟨m, hm⟩ : ∃ m, m = p.widen.length := ⟨_, rfl⟩
  obtain ⟨nl, hnl⟩ : ∃ m, m = l.length := ⟨_, rfl⟩
  have Hl := Lib.hid (And.intro hm hn)
  have Hfits := fun (V : World) (hV : Below W.heap.size W V) => fits_any f g o (vp 0) (vb 0) (.slice aa l.length ca) l W V hfc.1 hfc.2 (hpp 0 f hf0) ha hV
  have Hcallf := fun (hfit : fitsB f.params l = true) (V : World) (r : Nat) (hV : Below W.heap.size W V) (hr0 : W.heap.size ≤ r) (hR : RnAt V r (.slice aw p.widen.length cw) (.slice (some ⟨g, o, none⟩) p.funcs.length cap) most 0 0) => mcall_any f g o (vp 0) (vb 0) (.slice aa l.length ca) l N W hfc.1 hfc.2 (hpp 0 f hf0) (hbb 0 f hf0) ha hfit hN hpn hl64 hs V r _ _ most 0 hV hr0 hR (Int.le_refl _) (by omega) hmost
  have Hfind := fun (V : World) (r : Nat) (hV : Below W.heap.size W V) (hR : RnAt V r (.slice aw p.widen.length cw) (.slice (some ⟨g, o, none⟩) p.funcs.length cap) most 0 0) => find_any p.funcs f hf0 g o cap vp vb W V h.funcs hV r _ most 0 0 hR
  rw [← hn, ← hm] at h
  rw [← hn, ← hm, ← hnl]
  rw [← hn, ← hm, ← hnl] at Hcallf
  rw [← hn, ← hm] at Hfind
  rw [← hnl] at Hfits
  have HP := Lib.hid h
  have HX := Lib.hid (And.intro Hfits (And.intro Hcallf Hfind))
  have Hrf := Lib.hid (And.intro hrg hrf)
  obtain ⟨W1, hW1⟩ : ∃ W1, W1 = (W.alloc (.cells #[.slice aw m cw, .slice (some ⟨g, o, none⟩) n cap] 26)).alloc (.cells #[.int .i64 0, .int .i64 0, .int .i64 0] 55) := ⟨_, rfl⟩
  have hs1 : W1.heap.size = W.heap.size + 2 := by rw [hW1]; simp
  have hb1 : Below W.heap.size W W1 := by rw [hW1]; exact ((Below.refl _ _).alloc (Nat.le_refl _) _).alloc (by (try simp only [World.size_alloc]); (try simp only [size_set]); omega) _
  have hk1 : CkAt W1 W.heap.size (.slice aw m cw) (.slice (some ⟨g, o, none⟩) n cap) := by
    have q : (W.alloc (.cells #[.slice aw m cw, .slice (some ⟨g, o, none⟩) n cap] 26)).heap.size = W.heap.size + 1 := by simp
    have k : ∀ j, (((W.alloc (.cells #[.slice aw m cw, .slice (some ⟨g, o, none⟩) n cap] 26)).alloc (.cells #[.int .i64 0, .int .i64 0, .int .i64 0] 55)).cell? ⟨W.heap.size, j, none⟩) = (W.alloc (.cells #[.slice aw m cw, .slice (some ⟨g, o, none⟩) n cap] 26)).cell? ⟨W.heap.size, j, none⟩ :=
      fun j => ((Below.refl _ _).alloc (Nat.le_refl _) _).cell (p := ⟨W.heap.size, j, none⟩) (by show W.heap.size < _; omega)
    rw [hW1]
    exact ⟨(k 0).trans (World.cell?_alloc_at _ _ _ _ rfl), (k 1).trans (World.cell?_alloc_at _ _ _ _ rfl), World.cell?_alloc_at _ _ _ _ (by rw [q]), World.cell?_alloc_at _ _ _ _ (by rw [q]), World.cell?_alloc_at _ _ _ _ (by rw [q]),
      World.frozen?_alloc_at _ _ _ _ (by rw [q]), World.frozen?_alloc_at _ _ _ _ (by rw [q]), World.frozen?_alloc_at _ _ _ _ (by rw [q])⟩
  have HW1 := Lib.hid hW1
  obtain ⟨B, hB⟩ : ∃ B, B = W.heap.size := ⟨_, rfl⟩
  have HB := Lib.hid hB
  have hBW : W.heap.size ≤ B := by omega
  have hBW2 : B ≤ W.heap.size := by omega
  unfold pgV
  rw [← hB] at hk1
  have H1 := Lib.hid (And.intro hb1 hk1)
  have hm0 : decide (most < 0) = false := decide_eq_false (by omega)
  have hm1 : ¬ most < 0 := by omega
  clear h hw hr hpp hbb hn hm hnl hW1 hB hb1 hs1 ha hac1 hac2 hfc hrg hrf hf0 Hfits Hcallf Hfind
  go_enter Try.func27, Try.ntmps27
  go_upto_region 1 with (fail)
  rw [← HW1.out, ← HB.out]
  obtain ⟨c0, c1, r0, r1, r2, z0, z1, z2⟩ := hk1
  go_wp2_with fail
  refine (rgCheck_any p (.slice aw m cw) (.slice (some ⟨g, o, none⟩) n cap) vp vb W1 (HP.out.later H1.out.1) Hrf.out.1).mono ?_
  rintro e w2 ⟨rfl, hb2⟩
  rw [Hrf.out.2]
  have hk2 := H1.out.2.later hb2
  have hbb2 := H1.out.1.trans (hb2.mono H1.out.1.size)
  unfold fltV
  obtain ⟨W3, hW3⟩ : ∃ W3, W3 = (w2.alloc (.cells #[.int .i64 0, .int .i64 0, .int .i64 0] 29)).alloc (.cells #[.slice aw m cw, .slice (some ⟨g, o, none⟩) n cap, .int .i64 0, .int .i64 most, .int .i64 0] 89) := ⟨_, rfl⟩
  obtain ⟨D, hD⟩ : ∃ D, D = w2.heap.size := ⟨_, rfl⟩
  obtain ⟨r, hr⟩ : ∃ r, r = D + 1 := ⟨_, rfl⟩
  have q1 : (w2.alloc (.cells #[.int .i64 0, .int .i64 0, .int .i64 0] 29)).heap.size = D + 1 := by rw [hD]; simp
  have hb3 : Below w2.heap.size w2 W3 := by rw [hW3]; exact ((Below.refl _ _).alloc (Nat.le_refl _) _).alloc (by (try simp only [World.size_alloc]); (try simp only [size_set]); omega) _
  have hR3 : RnAt W3 r (.slice aw m cw) (.slice (some ⟨g, o, none⟩) n cap) most 0 0 := by
    have e : r = (w2.alloc (.cells #[.int .i64 0, .int .i64 0, .int .i64 0] 29)).heap.size := by rw [hr, q1]
    rw [hW3]
    exact ⟨World.cell?_alloc_at _ _ _ _ e, World.cell?_alloc_at _ _ _ _ e, World.cell?_alloc_at _ _ _ _ e, World.cell?_alloc_at _ _ _ _ e, World.cell?_alloc_at _ _ _ _ e, fun j => World.frozen?_alloc_at _ _ _ _ e⟩
  have hK3 := hk2.later hb3
  have hB3 := hbb2.trans (hb3.mono hbb2.size)
  have HW3 := Lib.hid (And.intro hW3 (And.intro hD hr))
  have HK3 := Lib.hid (And.intro hK3 (And.intro hB3 hR3))
  have hB2 : B + 1 < w2.heap.size := block_lt_of_cell hk2.r0
  have hB2' : B < w2.heap.size := by omega
  have hBr : B + 1 < r := by omega
  have hrW : W.heap.size ≤ r := by omega
  clear c0 c1 r0 r1 r2 z0 z1 z2 hb2 hbb2 hW3 hD hr hb3 hB3 q1 hK3 hR3
  obtain ⟨c0, c1, r0, r1, r2, z0, z1, z2⟩ := hk2
  go_upto_region 7 with (fail)
  rw [← HW3.out.2.1, ← HW3.out.2.2, ← HW3.out.1]
  clear c0 c1 r0 r1 r2 z0 z1 z2 hB2 hB2'
  have hfd := HX.out.2.2 W3 r HK3.out.2.1 HK3.out.2.2
  have hrin := HK3.out.2.2.in
  have qD : D < W3.heap.size := by have := HW3.out.2.2; omega
  go_wp2_with fail
  refine hfd.mono ?_
  rintro E w4 ⟨rfl, hb4⟩
  have H4 := Lib.hid (And.intro (HK3.out.1.later hb4) (And.intro (HK3.out.2.1.trans (hb4.mono HK3.out.2.1.size)) (HK3.out.2.2.later hb4)))
  have Hfit := Lib.hid (HX.out.1 w4 H4.out.2.1)
  have hp1 := run_eql_pointer_nil (P := Try.prog) w4 90 (some ⟨g, o, none⟩) (by kernel_rfl)
  clear hb4 hfd
  go_wp2_with fail
  refine Hfit.out.mono ?_
  rintro E w5 ⟨rfl, hb5⟩
  have H5 := Lib.hid (And.intro (H4.out.1.later hb5) (And.intro (H4.out.2.1.trans (hb5.mono H4.out.2.1.size)) (H4.out.2.2.later hb5)))
  clear hb5 hp1 Hfit
  obtain ⟨t, ht⟩ : ∃ t, t = meanT f l most := ⟨_, rfl⟩
  rw [← ht]
  have Ht := Lib.hid ht
  clear ht
  obtain ⟨z, hz⟩ : ∃ z, z = fitsB f.params l := ⟨_, rfl⟩
  rw [← hz]
  have Hz := Lib.hid hz
  clear hz
  cases z
  case false =>
    have Hres : Hid (t = (2, 0, 0)) := by show _ = _; rw [Ht.out]; unfold meanT; rw [← Hz.out]; rfl
    obtain ⟨c0, c1, r0, r1, r2, z0, z1, z2⟩ := H5.out.1
    go_wp2_with fail
    obtain ⟨w9, hw9⟩ : ∃ w9, w9 = ((w5.setCell ⟨B + 1, 0, none⟩ (.int .i64 2)).setCell ⟨B + 1, 1, none⟩ (.int .i64 0)).setCell ⟨B + 1, 2, none⟩ (.int .i64 0) := ⟨_, rfl⟩
    rw [← hw9]
    obtain ⟨e0, e1, e2, hO9⟩ := H5.out.1.answer (2, 0, 0) w9 hw9
    have HO9 := Lib.hid hO9
    clear hw9 hO9 c0 c1 r0 r1 r2 z0 z1 z2
    dsimp only at e0 e1 e2
    refine bodyPost_ret (by simp [results, Try.results27, go_sem, e0, e1, e2]; try rfl) rfl ?_
    exact ⟨by rw [← Ht.out, Hres.out]; rfl, H5.out.2.1.trans (HO9.out.below H5.out.2.1.size fun _ e => by omega)⟩
  have hcl := HX.out.2.1 Hz.out.symm w5 r H5.out.2.1 hrW H5.out.2.2
  obtain ⟨q, hq⟩ : ∃ q, q = (runsS most f.body ⟨parV f.params l f.params.length, 0, 1, 0⟩).2 := ⟨_, rfl⟩
  have e01 : (0 : Int) + 1 = 1 := rfl
  rw [e01, ← hq] at hcl
  have Hcl := Lib.hid hcl
  have Hq : Hid (t = (q.e, if q.e ≠ 0 then 0 else q.v, q.r)) := by show _ = _; rw [Ht.out, hq]; unfold meanT; rw [← Hz.out]; rfl
  obtain ⟨qV, qv, qr, qe⟩ := q
  simp only at Hcl Hq
  clear hcl hq e01
  go_wp2_with fail
  refine Hcl.out.mono ?_
  rintro E w6 ⟨rfl, hR6, hO6⟩
  have hK6 : CkAt w6 B (.slice aw m cw) (.slice (some ⟨g, o, none⟩) n cap) := by
    have q1 := block_lt_of_cell H5.out.1.c0
    have q2 := block_lt_of_cell H5.out.1.r0
    have k1 := fun j => hO6.cell (p := ⟨B, j, none⟩) q1 (show B ≠ r by omega)
    have k2 := fun j => hO6.cell (p := ⟨B + 1, j, none⟩) q2 (show B + 1 ≠ r by omega)
    have k3 := fun j => hO6.frozen (p := ⟨B + 1, j, none⟩) q2 (show B + 1 ≠ r by omega)
    exact ⟨(k1 0).trans H5.out.1.c0, (k1 1).trans H5.out.1.c1, (k2 0).trans H5.out.1.r0, (k2 1).trans H5.out.1.r1, (k2 2).trans H5.out.1.r2, (k3 0).trans H5.out.1.z0, (k3 1).trans H5.out.1.z1, (k3 2).trans H5.out.1.z2⟩
  have H6 := Lib.hid (And.intro hK6 (And.intro (H5.out.2.1.trans (hO6.below H5.out.2.1.size fun k (e : k = r) => by omega)) hR6))
  have d4 := hR6.c4
  have hrin6 := hR6.in
  clear hK6 hR6 hO6 Hcl
  by_cases hqe : qe = 0
  · subst hqe
    have Hres : Hid (t = (0, qv, qr)) := by show _ = _; rw [Hq.out]; rfl
    go_upto_region 15 with (fail)
    refine wp_region_heldZ (S := fun w => w.cell? ⟨r, 4, none⟩ = some (.int .i64 0) ∧ w.cell? ⟨r, 2, none⟩ = some (.int .i64 qr)) (z := 10) rfl ?_
    change wpAnyZ _ _ _ _ _ _ _ _ _ w6.drew
    obtain ⟨W0, hW0⟩ : ∃ W0, W0 = w6.drew := ⟨_, rfl⟩
    rw [← hW0]
    have hb0 : Below w6.heap.size w6 W0 := by rw [hW0]; exact (Below.refl _ _).drew
    have Hb : Hid (W0.cell? ⟨r, 4, none⟩ = some (.int .i64 0) ∧ W0.cell? ⟨r, 2, none⟩ = some (.int .i64 qr)) := ⟨(H6.out.2.2.later hb0).c4, (H6.out.2.2.later hb0).c2⟩
    have HC0 := Lib.hid (H6.out.1.later hb0)
    have HA0 := Lib.hid (H6.out.2.1.trans (hb0.mono H6.out.2.1.size))
    clear hb0 hW0 d4
    refine wpAnyZ_take (i := 0) (by simp only [List.getElem?_toArray, List.getElem?_cons_zero]; rfl) (by kernel_rfl) (by kernel_rfl) (by kernel_rfl) (by kernel_rfl) (by intro _ _ _ h; exact h) (Or.inl ⟨by rfl, fun w hw => by (obtain ⟨k1, k2⟩ := hw; go_simp; try rfl)⟩) Hb.out ?_
    refine wpAnyZ_take (i := 1) (by simp only [List.getElem?_toArray, List.getElem?_cons_succ, List.getElem?_cons_zero]; rfl) (by kernel_rfl) (by kernel_rfl) (by kernel_rfl) (by kernel_rfl) (by intro _ _ _ h; exact h) (Or.inl ⟨by rfl, fun w hw => by (obtain ⟨k1, k2⟩ := hw; go_simp; try rfl)⟩) Hb.out ?_
    go_frame
    refine wpAnyZ_take (i := 2) (by simp only [List.getElem?_toArray, List.getElem?_cons_succ, List.getElem?_cons_zero]; rfl) (by kernel_rfl) (by kernel_rfl) (by kernel_rfl) (by kernel_rfl) (by intro _ _ _ h; exact h) (Or.inl ⟨by rfl, fun w hw => by (obtain ⟨k1, k2⟩ := hw; go_simp; try rfl)⟩) Hb.out ?_
    refine wpAnyZ_take (i := 3) (by simp only [List.getElem?_toArray, List.getElem?_cons_succ, List.getElem?_cons_zero]; rfl) (by kernel_rfl) (by kernel_rfl) (by kernel_rfl) (by kernel_rfl) (by intro _ _ _ h; exact h) (Or.inl ⟨by rfl, fun w hw => by (obtain ⟨k1, k2⟩ := hw; go_simp; try rfl)⟩) Hb.out ?_
    go_frame
    refine wpAnyZ_take (i := 4) (by simp only [List.getElem?_toArray, List.getElem?_cons_succ, List.getElem?_cons_zero]; rfl) (by kernel_rfl) (by kernel_rfl) (by kernel_rfl) (by kernel_rfl) (by intro _ _ _ h; exact h) (Or.inl ⟨by rfl, fun w hw => by (obtain ⟨k1, k2⟩ := hw; go_simp; try rfl)⟩) Hb.out ?_
    refine wpAnyZ_take (i := 5) (by simp only [List.getElem?_toArray, List.getElem?_cons_succ, List.getElem?_cons_zero]; rfl) (by kernel_rfl) (by kernel_rfl) (by kernel_rfl) (by kernel_rfl) (by intro _ _ _ h; exact h) (Or.inl ⟨by rfl, fun w hw => by (obtain ⟨k1, k2⟩ := hw; go_simp; try rfl)⟩) Hb.out ?_
    go_frame
    refine wpAnyZ_take (i := 6) (by simp only [List.getElem?_toArray, List.getElem?_cons_succ, List.getElem?_cons_zero]; rfl) (by kernel_rfl) (by kernel_rfl) (by kernel_rfl) (by kernel_rfl) (by intro _ _ _ h; exact h) (Or.inl ⟨by rfl, fun w hw => by (obtain ⟨k1, k2⟩ := hw; go_simp; try rfl)⟩) Hb.out ?_
    refine wpAnyZ_take (i := 7) (by simp only [List.getElem?_toArray, List.getElem?_cons_succ, List.getElem?_cons_zero]; rfl) (by kernel_rfl) (by kernel_rfl) (by kernel_rfl) (by kernel_rfl) (by intro _ _ _ h; exact h) (Or.inl ⟨by rfl, fun w hw => by (obtain ⟨k1, k2⟩ := hw; go_simp; try rfl)⟩) Hb.out ?_
    go_frame
    refine wpAnyZ_take (i := 8) (by simp only [List.getElem?_toArray, List.getElem?_cons_succ, List.getElem?_cons_zero]; rfl) (by kernel_rfl) (by kernel_rfl) (by kernel_rfl) (by kernel_rfl) (by intro _ _ _ h; exact h) (Or.inl ⟨by rfl, fun w hw => by (obtain ⟨k1, k2⟩ := hw; go_simp; try rfl)⟩) Hb.out ?_
    refine wpAnyZ_take (i := 9) (by simp only [List.getElem?_toArray, List.getElem?_cons_succ, List.getElem?_cons_zero]; rfl) (by kernel_rfl) (by kernel_rfl) (by kernel_rfl) (by kernel_rfl) (by intro _ _ _ h; exact h) (Or.inl ⟨by rfl, fun w hw => by (obtain ⟨k1, k2⟩ := hw; go_simp; try rfl)⟩) Hb.out ?_
    go_frame
    refine wpAnyZ_next (i := 10) (by kernel_rfl) (by simp only [List.getElem?_toArray, List.getElem?_cons_succ, List.getElem?_cons_zero]; rfl) (fun Kc hKc => ?_)
    obtain ⟨c0, c1, r0, r1, r2, z0, z1, z2⟩ := HC0.out
    go_simp
    refine hKc.out _ _ (fun h => absurd rfl h) ?_
    clear hKc Kc
    refine wpAnyZ_done (by kernel_rfl) ?_ _
    go_wp2_with fail
    obtain ⟨w9, hw9⟩ : ∃ w9, w9 = ((W0.setCell ⟨B + 1, 0, none⟩ (.int .i64 0)).setCell ⟨B + 1, 1, none⟩ (.int .i64 qv)).setCell ⟨B + 1, 2, none⟩ (.int .i64 qr) := ⟨_, rfl⟩
    rw [← hw9]
    obtain ⟨e0, e1, e2, hO9⟩ := HC0.out.answer (0, qv, qr) w9 hw9
    have HO9 := Lib.hid hO9
    clear hw9 hO9 c0 c1 r0 r1 r2 z0 z1 z2
    dsimp only at e0 e1 e2
    refine bodyPost_ret (by simp [results, Try.results27, go_sem, e0, e1, e2]; try rfl) rfl ?_
    exact ⟨by rw [← Ht.out, Hres.out]; rfl, HA0.out.trans (HO9.out.below HA0.out.size fun _ e => by omega)⟩
  · have hq1 : (qe != 0) = true := by simp [hqe]
    have Hres : Hid (t = (qe, 0, qr)) := by show _ = _; rw [Hq.out, if_pos hqe]
    clear hqe
    go_upto_region 15 with (fail)
    refine wp_region_heldZ (S := fun w => w.cell? ⟨r, 4, none⟩ = some (.int .i64 qe) ∧ w.cell? ⟨r, 2, none⟩ = some (.int .i64 qr)) (z := 10) rfl ?_
    change wpAnyZ _ _ _ _ _ _ _ _ _ w6.drew
    obtain ⟨W0, hW0⟩ : ∃ W0, W0 = w6.drew := ⟨_, rfl⟩
    rw [← hW0]
    have hb0 : Below w6.heap.size w6 W0 := by rw [hW0]; exact (Below.refl _ _).drew
    have Hb : Hid (W0.cell? ⟨r, 4, none⟩ = some (.int .i64 qe) ∧ W0.cell? ⟨r, 2, none⟩ = some (.int .i64 qr)) := ⟨(H6.out.2.2.later hb0).c4, (H6.out.2.2.later hb0).c2⟩
    have HC0 := Lib.hid (H6.out.1.later hb0)
    have HA0 := Lib.hid (H6.out.2.1.trans (hb0.mono H6.out.2.1.size))
    clear hb0 hW0 d4
    refine wpAnyZ_take (i := 0) (by simp only [List.getElem?_toArray, List.getElem?_cons_zero]; rfl) (by kernel_rfl) (by kernel_rfl) (by kernel_rfl) (by kernel_rfl) (by intro _ _ _ h; exact h) (Or.inl ⟨by rfl, fun w hw => by (obtain ⟨k1, k2⟩ := hw; go_simp; try rfl)⟩) Hb.out ?_
    refine wpAnyZ_take (i := 1) (by simp only [List.getElem?_toArray, List.getElem?_cons_succ, List.getElem?_cons_zero]; rfl) (by kernel_rfl) (by kernel_rfl) (by kernel_rfl) (by kernel_rfl) (by intro _ _ _ h; exact h) (Or.inl ⟨by rfl, fun w hw => by (obtain ⟨k1, k2⟩ := hw; go_simp; try rfl)⟩) Hb.out ?_
    go_frame
    refine wpAnyZ_take (i := 2) (by simp only [List.getElem?_toArray, List.getElem?_cons_succ, List.getElem?_cons_zero]; rfl) (by kernel_rfl) (by kernel_rfl) (by kernel_rfl) (by kernel_rfl) (by intro _ _ _ h; exact h) (Or.inl ⟨by rfl, fun w hw => by (obtain ⟨k1, k2⟩ := hw; go_simp; try rfl)⟩) Hb.out ?_
    refine wpAnyZ_take (i := 3) (by simp only [List.getElem?_toArray, List.getElem?_cons_succ, List.getElem?_cons_zero]; rfl) (by kernel_rfl) (by kernel_rfl) (by kernel_rfl) (by kernel_rfl) (by intro _ _ _ h; exact h) (Or.inl ⟨by rfl, fun w hw => by (obtain ⟨k1, k2⟩ := hw; go_simp; try rfl)⟩) Hb.out ?_
    go_frame
    refine wpAnyZ_take (i := 4) (by simp only [List.getElem?_toArray, List.getElem?_cons_succ, List.getElem?_cons_zero]; rfl) (by kernel_rfl) (by kernel_rfl) (by kernel_rfl) (by kernel_rfl) (by intro _ _ _ h; exact h) (Or.inl ⟨by rfl, fun w hw => by (obtain ⟨k1, k2⟩ := hw; go_simp; try rfl)⟩) Hb.out ?_
    refine wpAnyZ_take (i := 5) (by simp only [List.getElem?_toArray, List.getElem?_cons_succ, List.getElem?_cons_zero]; rfl) (by kernel_rfl) (by kernel_rfl) (by kernel_rfl) (by kernel_rfl) (by intro _ _ _ h; exact h) (Or.inl ⟨by rfl, fun w hw => by (obtain ⟨k1, k2⟩ := hw; go_simp; try rfl)⟩) Hb.out ?_
    go_frame
    refine wpAnyZ_take (i := 6) (by simp only [List.getElem?_toArray, List.getElem?_cons_succ, List.getElem?_cons_zero]; rfl) (by kernel_rfl) (by kernel_rfl) (by kernel_rfl) (by kernel_rfl) (by intro _ _ _ h; exact h) (Or.inl ⟨by rfl, fun w hw => by (obtain ⟨k1, k2⟩ := hw; go_simp; try rfl)⟩) Hb.out ?_
    refine wpAnyZ_take (i := 7) (by simp only [List.getElem?_toArray, List.getElem?_cons_succ, List.getElem?_cons_zero]; rfl) (by kernel_rfl) (by kernel_rfl) (by kernel_rfl) (by kernel_rfl) (by intro _ _ _ h; exact h) (Or.inl ⟨by rfl, fun w hw => by (obtain ⟨k1, k2⟩ := hw; go_simp; try rfl)⟩) Hb.out ?_
    go_frame
    refine wpAnyZ_take (i := 8) (by simp only [List.getElem?_toArray, List.getElem?_cons_succ, List.getElem?_cons_zero]; rfl) (by kernel_rfl) (by kernel_rfl) (by kernel_rfl) (by kernel_rfl) (by intro _ _ _ h; exact h) (Or.inl ⟨by rfl, fun w hw => by (obtain ⟨k1, k2⟩ := hw; go_simp; try rfl)⟩) Hb.out ?_
    refine wpAnyZ_take (i := 9) (by simp only [List.getElem?_toArray, List.getElem?_cons_succ, List.getElem?_cons_zero]; rfl) (by kernel_rfl) (by kernel_rfl) (by kernel_rfl) (by kernel_rfl) (by intro _ _ _ h; exact h) (Or.inl ⟨by rfl, fun w hw => by (obtain ⟨k1, k2⟩ := hw; go_simp; try rfl)⟩) Hb.out ?_
    go_frame
    refine wpAnyZ_next (i := 10) (by kernel_rfl) (by simp only [List.getElem?_toArray, List.getElem?_cons_succ, List.getElem?_cons_zero]; rfl) (fun Kc hKc => ?_)
    obtain ⟨c0, c1, r0, r1, r2, z0, z1, z2⟩ := HC0.out
    go_simp
    refine hKc.out _ _ (fun h => absurd rfl h) ?_
    clear hKc Kc
    refine wpAnyZ_done (by kernel_rfl) ?_ _
    go_wp2_with fail
    obtain ⟨w9, hw9⟩ : ∃ w9, w9 = ((W0.setCell ⟨B + 1, 0, none⟩ (.int .i64 qe)).setCell ⟨B + 1, 1, none⟩ (.int .i64 0)).setCell ⟨B + 1, 2, none⟩ (.int .i64 qr) := ⟨_, rfl⟩
    rw [← hw9]
    obtain ⟨e0, e1, e2, hO9⟩ := HC0.out.answer (qe, 0, qr) w9 hw9
    have HO9 := Lib.hid hO9
    clear hw9 hO9 c0 c1 r0 r1 r2 z0 z1 z2
    dsimp only at e0 e1 e2
    refine bodyPost_ret (by simp [results, Try.results27, go_sem, e0, e1, e2]; try rfl) rfl ?_
    exact ⟨by rw [← Ht.out, Hres.out]; rfl, HA0.out.trans (HO9.out.below HA0.out.size fun _ e => by omega)⟩
end Go.Proofs.Ytgcplcffejbniaa
