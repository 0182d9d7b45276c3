/- ranges: the walk of RangesNames. -/
import Derived.Test.YtgcplcffejbniaaRgAwk
namespace Go.Proofs.Ytgcplcffejbniaa
open Go.RowKit Go.Maps

set_option maxRecDepth 100000 in
theorem rgLawNames_any (W : World) : Calls Try.prog 3 #[] W (Gives (.bool true) W) := by
  go_enter Try.func3, Try.ntmps3
  go_wp2_with fail
  refine (rgAwake_any W).mono ?_
  rintro e w2 ⟨rfl, hb2⟩
  have H2 := Lib.hid hb2
  clear hb2
  go_wp2_with fail
  go_ret
  exact ⟨rfl, H2.out⟩
end Go.Proofs.Ytgcplcffejbniaa
