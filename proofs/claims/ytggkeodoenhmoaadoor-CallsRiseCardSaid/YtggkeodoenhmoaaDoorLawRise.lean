/- The statement CallsRise's walk: of every module it answers true and leaves what was there. -/
import Derived.Test.YtggkeodoenhmoaaDoorRiseB
namespace Go.Proofs.YtggkeodoenhmoaaDoor
open Go.RowKit

theorem lawRise_any (vt vf : Value) (ts : List Int) (F : List FR) (w : World) (hm : ModIn w vt vf ts F) (hw : WordsIn w) :
    Calls Tryd.prog 5 #[modV vt vf] w (Gives (.bool true) w) := by
  by_cases h : F.length ≤ 32
  · by_cases h2 : ∃ x, Lead F x x
    · exact rise_ring vt vf ts F w hm hw h h2
    · exact rise_ok vt vf ts F w hm hw h (fun x hx => h2 ⟨x, hx⟩)
  · exact rise_many vt vf ts F w hm hw (by omega)
end Go.Proofs.YtggkeodoenhmoaaDoor
