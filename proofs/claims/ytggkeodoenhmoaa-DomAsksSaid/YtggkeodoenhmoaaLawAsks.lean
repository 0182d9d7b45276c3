/- The statement DomAsks' walk: of every function and two numbers it answers true and leaves what was there. -/
import Derived.Test.YtggkeodoenhmoaaFixed13
import Derived.Test.YtggkeodoenhmoaaRDom
import Derived.Test.YtggkeodoenhmoaaSameFn
namespace Go.Proofs.Ytggkeodoenhmoaa
open Go.RowKit

set_option maxRecDepth 100000 in
set_option maxHeartbeats 2000000 in
theorem lawAsks_any (s : ByteArray) (vp : Value) (regs words : Int) (vc : Value) (params : List Span) (code : List Ins) (a b : Int) (w : World) (hlen : code.length * 40 ≤ 140737488351232) (hplen : params.length * 16 ≤ 140737488351232) (hc : CodeIn w vc code) (hp : SpansIn w vp params) :
    Calls Try.prog 8 #[fnV s vp regs words vc, .int .i64 a, .int .i64 b] w (Gives (.bool true) w) := by
  have Hlen := Lib.hid hlen
  have Hplen := Lib.hid hplen
  have Hc := Lib.hid hc
  have Hp := Lib.hid hp
  clear hlen hplen hc hp
  go_enter Try.func8, Try.ntmps8
  go_wp2_with fail
  have hb0 : Below w.heap.size w (w.alloc (.cells #[.string s, vp, .int .i64 regs, .int .i64 words, vc] 25)) := (Below.refl _ _).alloc (Nat.le_refl _) _
  refine (copyFunc_any s vp regs words vc params code _ Hlen.out Hplen.out (SliceIn.later Hc.out hb0) (SliceIn.later Hp.out hb0)).mono ?_
  rintro e wA ⟨vp', vc', rfl, hpA, hcA, -, hbA⟩
  obtain ⟨a1, n1, c1, rfl⟩ := row_form hpA
  obtain ⟨a2, n2, c2, rfl⟩ := row_form hcA
  obtain ⟨wX, hwX⟩ : ∃ wX : World, wX = wA.alloc (.cells #[.string s, .slice a1 n1 c1, .int .i64 regs, .int .i64 words, .slice a2 n2 c2] 25) := ⟨_, rfl⟩
  have hbX : Below wA.heap.size wA wX := by rw [hwX]; exact (Below.refl _ _).alloc (Nat.le_refl _) _
  have hsA : w.heap.size < wA.heap.size := by have := hbA.size; simp at this; omega
  have hfS : FnAt wX w.heap.size s vp regs words vc := ((FnAt.box w s vp regs words vc _).later hbA (by simp)).later hbX hsA
  have hfO : FnAt wX wA.heap.size s (.slice a1 n1 c1) regs words (.slice a2 n2 c2) := by rw [hwX]; exact FnAt.box _ _ _ _ _ _ _
  have hbw : Below w.heap.size w wX := hb0.trans ((hbA.mono (by simp)).trans (hbX.mono (by omega)))
  have hsX : wA.heap.size + 1 ≤ wX.heap.size := by rw [hwX]; simp
  have hcO : CodeIn wX (.slice a2 n2 c2) code := SliceIn.later (SliceIn.of_owns hcA) hbX
  have hpO : SpansIn wX (.slice a1 n1 c1) params := SliceIn.later (SliceIn.of_owns hpA) hbX
  obtain ⟨f0, f1, f2, f3, f4⟩ := hfO
  have HX : Hid (FnAt wX w.heap.size s vp regs words vc ∧ FnAt wX wA.heap.size s (.slice a1 n1 c1) regs words (.slice a2 n2 c2) ∧ Below w.heap.size w wX ∧ CodeIn wX (.slice a2 n2 c2) code ∧ SpansIn wX (.slice a1 n1 c1) params) := ⟨hfS, ⟨f0, f1, f2, f3, f4⟩, hbw, hcO, hpO⟩
  have HwX := Lib.hid hwX
  clear hb0 hpA hcA hbA hbX hfS hbw hcO hpO hwX
  go_wp2_with fail
  rw [← HwX.out]
  refine (dominates_any s (.slice a1 n1 c1) regs words (.slice a2 n2 c2) code a b _ HX.out.2.2.2.1).mono ?_
  rintro e wH ⟨-, rfl, hbH⟩
  have hO := HX.out.2.1.later hbH (by omega)
  have hS := HX.out.1.later hbH (by omega)
  have HH := Lib.hid hbH
  have hz2 : wA.heap.size < wH.heap.size := by have := hbH.size; omega
  have hz1 : w.heap.size < wH.heap.size := by omega
  clear hbH f0 f1 f2 f3 f4
  obtain ⟨f0, f1, f2, f3, f4⟩ := hO
  obtain ⟨g0, g1, g2, g3, g4⟩ := hS
  go_wp2_with fail
  obtain ⟨WZ, hWZ⟩ : ∃ WZ : World, WZ = (wH.alloc (.cells #[.string s, .slice a1 n1 c1, .int .i64 regs, .int .i64 words, .slice a2 n2 c2] 25)).alloc (.cells #[.string s, vp, .int .i64 regs, .int .i64 words, vc] 25) := ⟨_, rfl⟩
  rw [← hWZ]
  have hbZ : Below wH.heap.size wH WZ := by rw [hWZ]; exact ((Below.refl _ _).alloc (Nat.le_refl _) _).alloc (by (try simp only [World.size_alloc]); (try simp only [size_set]); omega) _
  have hXZ : Below wX.heap.size wX WZ := HH.out.trans (hbZ.mono HH.out.size)
  have hwZ : Below w.heap.size w WZ := HX.out.2.2.1.trans (hXZ.mono (by omega))
  have hfa : FnAt WZ wH.heap.size s (.slice a1 n1 c1) regs words (.slice a2 n2 c2) := by
    rw [hWZ]; exact (FnAt.box wH s _ regs words _ _).later ((Below.refl (wH.heap.size + 1) _).alloc (by (try simp only [World.size_alloc]); (try simp only [size_set]); omega) _) (Nat.lt_succ_self _)
  have hfb : FnAt WZ (wH.heap.size + 1) s vp regs words vc := by
    have := FnAt.box (wH.alloc (.cells #[.string s, .slice a1 n1 c1, .int .i64 regs, .int .i64 words, .slice a2 n2 c2] 25)) s vp regs words vc 25
    rw [hWZ]; simpa using this
  have hzz : wH.heap.size + 2 ≤ WZ.heap.size := by rw [hWZ]; simp
  have hcz : CodeIn WZ (.slice a2 n2 c2) code := SliceIn.later HX.out.2.2.2.1 hXZ
  have hpz : SpansIn WZ (.slice a1 n1 c1) params := SliceIn.later HX.out.2.2.2.2 hXZ
  have HwZ := Lib.hid hwZ
  clear hWZ f0 f1 f2 f3 f4 g0 g1 g2 g3 g4
  refine (same_true s (.slice a1 n1 c1) vp regs words (.slice a2 n2 c2) vc params code WZ Hlen.out Hplen.out hcz hpz (SliceIn.later Hc.out hwZ) (SliceIn.later Hp.out hwZ) _ _ hfa hfb (by omega) (by omega)).mono ?_
  rintro e wK ⟨rfl, hbK⟩
  have HK : Hid (FnAt wK w.heap.size s vp regs words vc ∧ Below w.heap.size w wK ∧ w.heap.size < wK.heap.size) :=
    ⟨HX.out.1.later (hXZ.trans (hbK.mono hXZ.size)) (by omega), HwZ.out.trans (hbK.mono (by omega)), by have := hbK.size; omega⟩
  clear hbZ hXZ hwZ hfa hfb hcz hpz hbK
  go_wp2_with fail
  refine (fixed13_any _).mono ?_
  rintro e wL ⟨rfl, hbL⟩
  have HLL : Hid (FnAt wL w.heap.size s vp regs words vc ∧ Below w.heap.size w wL) := ⟨HK.out.1.later hbL HK.out.2.2, HK.out.2.1.trans (hbL.mono (by have := HK.out.2.2; omega))⟩
  obtain ⟨f0, f1, f2, f3, f4⟩ := HLL.out.1
  clear hbL
  go_wp2_with fail
  refine (rdom_any s vp regs words vc code a b _ Hlen.out (SliceIn.later Hc.out HLL.out.2)).mono ?_
  rintro e wM ⟨rfl, hbM⟩
  have HM : Hid (Below w.heap.size w wM) := HLL.out.2.trans (hbM.mono (by have := HLL.out.2.size; omega))
  clear hbM f0 f1 f2 f3 f4
  generalize domB code a b = d
  cases d
  all_goals
    go_wp2_with fail
    go_ret
    exact ⟨rfl, HM.out⟩
end Go.Proofs.Ytggkeodoenhmoaa
