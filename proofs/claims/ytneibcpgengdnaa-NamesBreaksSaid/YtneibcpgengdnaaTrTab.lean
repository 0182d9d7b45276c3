/- The table of statements' fields. -/
import Derived.Test.YtneibcpgengdnaaTrChk
import Derived.Handy
namespace Go.Proofs.Ytneibcpgengdnaa
open Go.RowKit

def cntV (k : Int) : Value := .agg #[.bool (cntName k), .bool (cntN k), .bool (cntA k), .bool (cntB k), .bool (cntBody k), .bool (cntElse k), .bool (cntCases k)]
set_option maxHeartbeats 4000000 in
theorem counting_any (k : Int) (W : World) : Calls Try.prog 53 #[.int .i64 k] W (Gives (.tuple #[cntV k, .bool (knownS k)]) W) := by
  by_cases h1 : k = 1
  · subst h1; go_enter Try.func53, Try.ntmps53; go_wp2_with fail; go_returns; exact ⟨rfl, (Below.refl _ _).alloc (Nat.le_refl _) _⟩
  by_cases h2 : k = 2
  · subst h2; go_enter Try.func53, Try.ntmps53; go_wp2_with fail; go_returns; exact ⟨rfl, (Below.refl _ _).alloc (Nat.le_refl _) _⟩
  by_cases h3 : k = 3
  · subst h3; go_enter Try.func53, Try.ntmps53; go_wp2_with fail; go_returns; exact ⟨rfl, (Below.refl _ _).alloc (Nat.le_refl _) _⟩
  by_cases h4 : k = 4
  · subst h4; go_enter Try.func53, Try.ntmps53; go_wp2_with fail; go_returns; exact ⟨rfl, (Below.refl _ _).alloc (Nat.le_refl _) _⟩
  by_cases h5 : k = 5
  · subst h5; go_enter Try.func53, Try.ntmps53; go_wp2_with fail; go_returns; exact ⟨rfl, (Below.refl _ _).alloc (Nat.le_refl _) _⟩
  by_cases h6 : k = 6
  · subst h6; go_enter Try.func53, Try.ntmps53; go_wp2_with fail; go_returns; exact ⟨rfl, (Below.refl _ _).alloc (Nat.le_refl _) _⟩
  by_cases h7 : k = 7
  · subst h7; go_enter Try.func53, Try.ntmps53; go_wp2_with fail; go_returns; exact ⟨rfl, (Below.refl _ _).alloc (Nat.le_refl _) _⟩
  by_cases h8 : k = 8
  · subst h8; go_enter Try.func53, Try.ntmps53; go_wp2_with fail; go_returns; exact ⟨rfl, (Below.refl _ _).alloc (Nat.le_refl _) _⟩
  by_cases h9 : k = 9
  · subst h9; go_enter Try.func53, Try.ntmps53; go_wp2_with fail; go_returns; exact ⟨rfl, (Below.refl _ _).alloc (Nat.le_refl _) _⟩
  by_cases h10 : k = 10
  · subst h10; go_enter Try.func53, Try.ntmps53; go_wp2_with fail; go_returns; exact ⟨rfl, (Below.refl _ _).alloc (Nat.le_refl _) _⟩
  have Hv : Hid (cntV k = .agg #[.bool false, .bool false, .bool false, .bool false, .bool false, .bool false, .bool false]) := by show _ = _; simp [cntV, cntName, cntN, cntA, cntB, cntBody, cntElse, cntCases, h1, h2, h3, h4, h5, h6, h7, h9, h10]
  have Hk : Hid (knownS k = false) := by show _ = _; simp only [knownS, decide_eq_false_iff_not]; omega
  go_enter Try.func53, Try.ntmps53
  go_wp2_with fail
  go_returns
  exact ⟨by rw [Hv.out, Hk.out, show (k == 8) = false by simp [h8]], (Below.refl _ _).alloc (Nat.le_refl _) _⟩
end Go.Proofs.Ytneibcpgengdnaa
