/- Three small functions on operations' numbers: what they answer. -/
import Derived.Test.YtggkeodoenhmoaaDoorBase
namespace Go.Proofs.YtggkeodoenhmoaaDoor
open Go.RowKit

def knownB (op : Int) : Bool := decide (0 ≤ op ∧ op ≤ 19)

set_option maxHeartbeats 400000 in
theorem known_any (op : Int) (w : World) :
    Calls Tryd.prog 28 #[.int .i64 op] w fun e w' => e = .returned (.bool (knownB op)) ∧ w = w' := by
  by_cases h1 : 0 ≤ op
  · go_enter Tryd.func28, Tryd.ntmps28
    go_wp2
    go_ret
    exact ⟨ret_bool (by simp [knownB]; omega), rfl⟩
  · go_enter Tryd.func28, Tryd.ntmps28
    go_wp2
    go_ret
    exact ⟨ret_bool (by simp [knownB]; omega), rfl⟩

set_option maxHeartbeats 400000 in
theorem rknown_any (op : Int) (w : World) :
    Calls Tryd.prog 51 #[.int .i64 op] w fun e w' => e = .returned (.bool (knownB op)) ∧ w = w' := by
  by_cases h1 : 0 ≤ op
  · go_enter Tryd.func51, Tryd.ntmps51
    go_wp2
    go_ret
    exact ⟨ret_bool (by simp [knownB]; omega), rfl⟩
  · go_enter Tryd.func51, Tryd.ntmps51
    go_wp2
    go_ret
    exact ⟨ret_bool (by simp [knownB]; omega), rfl⟩

def targetB (op : Int) : Bool := decide (14 ≤ op ∧ op ≤ 18)

set_option maxHeartbeats 400000 in
theorem target_any (op : Int) (w : World) :
    Calls Tryd.prog 52 #[.int .i64 op] w fun e w' => e = .returned (.bool (targetB op)) ∧ w = w' := by
  by_cases h1 : op = 14
  · subst h1
    go_enter Tryd.func52, Tryd.ntmps52
    go_wp2
    go_ret
    exact ⟨by simp [targetB], rfl⟩
  by_cases h2 : op = 15
  · subst h2
    go_enter Tryd.func52, Tryd.ntmps52
    go_wp2
    go_ret
    exact ⟨by simp [targetB], rfl⟩
  by_cases h3 : op = 16
  · subst h3
    go_enter Tryd.func52, Tryd.ntmps52
    go_wp2
    go_ret
    exact ⟨by simp [targetB], rfl⟩
  by_cases h4 : op = 17
  · subst h4
    go_enter Tryd.func52, Tryd.ntmps52
    go_wp2
    go_ret
    exact ⟨by simp [targetB], rfl⟩
  go_enter Tryd.func52, Tryd.ntmps52
  go_wp2
  go_ret
  exact ⟨ret_bool (by simp [targetB]; omega), rfl⟩
end Go.Proofs.YtggkeodoenhmoaaDoor
