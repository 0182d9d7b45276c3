/- The statement FlowEdges' walk: of every function it answers true and leaves what was there. -/
import Derived.Test.YtggkeodoenhmoaaTold
import Derived.Test.YtggkeodoenhmoaaLawReach
namespace Go.Proofs.Ytggkeodoenhmoaa
open Go.RowKit

set_option maxRecDepth 100000 in
set_option maxHeartbeats 2000000 in
theorem lawEdges_any (s : ByteArray) (vp : Value) (regs words : Int) (vc : Value) (code : List Ins) (k : Int) (w : World) (hlen : code.length * 40 ≤ 140737488351232) (hc : CodeIn w vc code) :
    Calls Try.prog 5 #[fnV s vp regs words vc, .int .i64 k] w (Gives (.bool true) w) := by
  have Hlen := Lib.hid hlen
  have Hc := Lib.hid hc
  clear hlen hc
  go_enter Try.func5, Try.ntmps5
  go_wp2_with fail
  refine (redges_any s vp regs words vc code _ Hlen.out (SliceIn.later Hc.out ((Below.refl _ _).alloc (Nat.le_refl _) _))).mono ?_
  rintro e wA ⟨vw, rfl, hvw, hbA⟩
  have hbwA : Below w.heap.size w wA := ((Below.refl _ _).alloc (Nat.le_refl _) _).trans (hbA.mono (by simp))
  have hfA : FnAt wA w.heap.size s vp regs words vc := (FnAt.box w s vp regs words vc _).later hbA (by simp)
  have hwA : EdgesIn wA vw (edgesL code) := SliceIn.of_owns hvw
  have hsA : w.heap.size + 1 ≤ wA.heap.size := by have := hbA.size; simpa using this
  clear hvw hbA
  have HA := Lib.hid (And.intro hfA (And.intro hbwA (And.intro hwA hsA)))
  clear hfA hbwA hwA
  go_wp2_with fail
  refine (fixed_any _).mono ?_
  rintro e wB ⟨rfl, hbB⟩
  have HB : Hid (FnAt wB w.heap.size s vp regs words vc ∧ Below w.heap.size w wB ∧ EdgesIn wB vw (edgesL code) ∧ w.heap.size + 1 ≤ wB.heap.size) :=
    ⟨HA.out.1.later hbB (by omega), HA.out.2.1.trans (hbB.mono (by omega)), SliceIn.later HA.out.2.2.1 hbB, Nat.le_trans HA.out.2.2.2 hbB.size⟩
  clear hbB HA hsA
  obtain ⟨f0, f1, f2, f3, f4⟩ := HB.out.1
  go_wp2_with fail
  refine (told_any s vp regs words vc code vw (-1) _ Hlen.out (SliceIn.later Hc.out HB.out.2.1) HB.out.2.2.1).mono ?_
  rintro e wC ⟨rfl, hbC⟩
  have HC : Hid (FnAt wC w.heap.size s vp regs words vc ∧ Below w.heap.size w wC ∧ EdgesIn wC vw (edgesL code) ∧ w.heap.size + 1 ≤ wC.heap.size) :=
    ⟨HB.out.1.later hbC (by have := HB.out.2.2.2; omega), HB.out.2.1.trans (hbC.mono (by have := HB.out.2.2.2; omega)), SliceIn.later HB.out.2.2.1 hbC, Nat.le_trans HB.out.2.2.2 hbC.size⟩
  clear hbC HB f0 f1 f2 f3 f4
  obtain ⟨f0, f1, f2, f3, f4⟩ := HC.out.1
  go_wp2_with fail
  refine (told_any s vp regs words vc code vw k _ Hlen.out (SliceIn.later Hc.out HC.out.2.1) HC.out.2.2.1).mono ?_
  rintro e wD ⟨rfl, hbD⟩
  have HD : Hid (FnAt wD w.heap.size s vp regs words vc ∧ Below w.heap.size w wD ∧ EdgesIn wD vw (edgesL code) ∧ w.heap.size + 1 ≤ wD.heap.size) :=
    ⟨HC.out.1.later hbD (by have := HC.out.2.2.2; omega), HC.out.2.1.trans (hbD.mono (by have := HC.out.2.2.2; omega)), SliceIn.later HC.out.2.2.1 hbD, Nat.le_trans HC.out.2.2.2 hbD.size⟩
  clear hbD HC f0 f1 f2 f3 f4
  obtain ⟨f0, f1, f2, f3, f4⟩ := HD.out.1
  go_wp2_with fail
  refine (told_any s vp regs words vc code vw (-1) _ Hlen.out (SliceIn.later Hc.out HD.out.2.1) HD.out.2.2.1).mono ?_
  rintro e wE ⟨rfl, hbE⟩
  go_wp2_with fail
  go_ret
  exact ⟨rfl, HD.out.2.1.trans (hbE.mono (by have := HD.out.2.2.2; omega))⟩
end Go.Proofs.Ytggkeodoenhmoaa
