/- Three small functions on operations' numbers: what they answer. -/
import Derived.Test.YtggkeodoenhmoaaBase
namespace Go.Proofs.Ytggkeodoenhmoaa
open Go.RowKit

def knownB (op : Int) : Bool := decide (0 ≤ op ∧ op ≤ 19)

set_option maxHeartbeats 400000 in
theorem known_any (op : Int) (w : World) :
    Calls Try.prog 33 #[.int .i64 op] w fun e w' => e = .returned (.bool (knownB op)) ∧ w = w' := by
  by_cases h1 : 0 ≤ op
  · go_enter Try.func33, Try.ntmps33
    go_wp2
    go_ret
    exact ⟨ret_bool (by simp [knownB]; omega), rfl⟩
  · go_enter Try.func33, Try.ntmps33
    go_wp2
    go_ret
    exact ⟨ret_bool (by simp [knownB]; omega), rfl⟩

set_option maxHeartbeats 400000 in
theorem rknown_any (op : Int) (w : World) :
    Calls Try.prog 34 #[.int .i64 op] w fun e w' => e = .returned (.bool (knownB op)) ∧ w = w' := by
  by_cases h1 : 0 ≤ op
  · go_enter Try.func34, Try.ntmps34
    go_wp2
    go_ret
    exact ⟨ret_bool (by simp [knownB]; omega), rfl⟩
  · go_enter Try.func34, Try.ntmps34
    go_wp2
    go_ret
    exact ⟨ret_bool (by simp [knownB]; omega), rfl⟩

def targetB (op : Int) : Bool := decide (14 ≤ op ∧ op ≤ 18)

set_option maxHeartbeats 400000 in
theorem target_any (op : Int) (w : World) :
    Calls Try.prog 35 #[.int .i64 op] w fun e w' => e = .returned (.bool (targetB op)) ∧ w = w' := by
  by_cases h1 : op = 14
  · subst h1
    go_enter Try.func35, Try.ntmps35
    go_wp2
    go_ret
    exact ⟨by simp [targetB], rfl⟩
  by_cases h2 : op = 15
  · subst h2
    go_enter Try.func35, Try.ntmps35
    go_wp2
    go_ret
    exact ⟨by simp [targetB], rfl⟩
  by_cases h3 : op = 16
  · subst h3
    go_enter Try.func35, Try.ntmps35
    go_wp2
    go_ret
    exact ⟨by simp [targetB], rfl⟩
  by_cases h4 : op = 17
  · subst h4
    go_enter Try.func35, Try.ntmps35
    go_wp2
    go_ret
    exact ⟨by simp [targetB], rfl⟩
  go_enter Try.func35, Try.ntmps35
  go_wp2
  go_ret
  exact ⟨ret_bool (by simp [targetB]; omega), rfl⟩
end Go.Proofs.Ytggkeodoenhmoaa
