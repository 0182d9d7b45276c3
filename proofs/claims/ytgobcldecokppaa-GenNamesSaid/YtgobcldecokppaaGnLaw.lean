/- soffitlaw22.GenNames: the walk. -/
import Derived.Test.YtgobcldecokppaaGnAwk
namespace Go.Proofs.Ytgobcldecokppaa
open Go.RowKit Go.Maps

set_option maxRecDepth 100000 in
theorem gnLawNames_any (W : World) : Calls Try.prog 3 #[] W (Gives (.bool true) W) := by
  go_enter Try.func3, Try.ntmps3
  go_wp2_with fail
  refine (gnAwake_any W).mono ?_
  rintro e w2 ⟨rfl, hb2⟩
  have H2 := Lib.hid hb2
  clear hb2
  go_wp2_with fail
  go_ret
  exact ⟨rfl, H2.out⟩
end Go.Proofs.Ytgobcldecokppaa
