/- LoopsDepth: in how many loops an instruction lies, of all lists: the walk. -/
import Derived.Test.YtapjdndcnenadaaDoorFixed14
namespace Go.Proofs.YtapjdndcnenadaaDoor
open Go.RowKit

set_option maxRecDepth 100000 in
set_option maxHeartbeats 1000000 in
theorem lawDepth_any (v : Value) (l : List LP) (k : Int) (w : World) (h : LoopsIn w v l) (hw : WritesIn w) : Calls Tryd.prog 4 #[v, .int .i64 k] w (Gives (.bool true) w) := by
  have H := Lib.hid h
  have Hw := Lib.hid hw
  clear h hw
  obtain ⟨d, hd⟩ : ∃ d, d = depthOf l k := ⟨_, rfl⟩
  have Hd := Lib.hid hd
  clear hd
  go_enter Tryd.func4, Tryd.ntmps4
  go_wp2_with fail
  refine (fixed14_any _ Hw.out).mono ?_
  rintro e w1 ⟨rfl, hb1⟩
  have Hb1 := Lib.hid hb1
  clear hb1
  go_wp2_with fail
  refine (depth_any v l k _ (H.out.later Hb1.out)).mono ?_
  rintro e w2 ⟨rfl, hb2⟩
  rw [← Hd.out]
  have Hb2 := Lib.hid (Hb1.out.trans (hb2.mono Hb1.out.size))
  clear hb2 Hb1
  go_wp2_with fail
  refine (rdepth_any v l k _ (H.out.later Hb2.out)).mono ?_
  rintro e w3 ⟨rfl, rfl⟩
  rw [← Hd.out]
  go_wp2_with fail
  go_ret
  exact ⟨rfl, Hb2.out⟩
end Go.Proofs.YtapjdndcnenadaaDoor
