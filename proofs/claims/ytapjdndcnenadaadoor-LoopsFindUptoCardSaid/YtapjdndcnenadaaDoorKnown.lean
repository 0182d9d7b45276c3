/- Three small functions on operations' numbers: what they answer. -/
import Derived.Test.YtapjdndcnenadaaDoorBase
namespace Go.Proofs.YtapjdndcnenadaaDoor
open Go.RowKit

def knownB (op : Int) : Bool := decide (0 ≤ op ∧ op ≤ 19)

set_option maxHeartbeats 400000 in
theorem known_any (op : Int) (w : World) :
    Calls Tryd.prog 46 #[.int .i64 op] w fun e w' => e = .returned (.bool (knownB op)) ∧ w = w' := by
  by_cases h1 : 0 ≤ op
  · go_enter Tryd.func46, Tryd.ntmps46
    go_wp2
    go_ret
    exact ⟨ret_bool (by simp [knownB]; omega), rfl⟩
  · go_enter Tryd.func46, Tryd.ntmps46
    go_wp2
    go_ret
    exact ⟨ret_bool (by simp [knownB]; omega), rfl⟩

set_option maxHeartbeats 400000 in
theorem rknown_any (op : Int) (w : World) :
    Calls Tryd.prog 39 #[.int .i64 op] w fun e w' => e = .returned (.bool (knownB op)) ∧ w = w' := by
  by_cases h1 : 0 ≤ op
  · go_enter Tryd.func39, Tryd.ntmps39
    go_wp2
    go_ret
    exact ⟨ret_bool (by simp [knownB]; omega), rfl⟩
  · go_enter Tryd.func39, Tryd.ntmps39
    go_wp2
    go_ret
    exact ⟨ret_bool (by simp [knownB]; omega), rfl⟩

def targetB (op : Int) : Bool := decide (14 ≤ op ∧ op ≤ 18)

set_option maxHeartbeats 400000 in
theorem target_any (op : Int) (w : World) :
    Calls Tryd.prog 40 #[.int .i64 op] w fun e w' => e = .returned (.bool (targetB op)) ∧ w = w' := by
  by_cases h1 : op = 14
  · subst h1
    go_enter Tryd.func40, Tryd.ntmps40
    go_wp2
    go_ret
    exact ⟨by simp [targetB], rfl⟩
  by_cases h2 : op = 15
  · subst h2
    go_enter Tryd.func40, Tryd.ntmps40
    go_wp2
    go_ret
    exact ⟨by simp [targetB], rfl⟩
  by_cases h3 : op = 16
  · subst h3
    go_enter Tryd.func40, Tryd.ntmps40
    go_wp2
    go_ret
    exact ⟨by simp [targetB], rfl⟩
  by_cases h4 : op = 17
  · subst h4
    go_enter Tryd.func40, Tryd.ntmps40
    go_wp2
    go_ret
    exact ⟨by simp [targetB], rfl⟩
  go_enter Tryd.func40, Tryd.ntmps40
  go_wp2
  go_ret
  exact ⟨ret_bool (by simp [targetB]; omega), rfl⟩
end Go.Proofs.YtapjdndcnenadaaDoor
