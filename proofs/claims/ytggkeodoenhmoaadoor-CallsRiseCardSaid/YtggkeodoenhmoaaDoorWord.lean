/- code.Word: 'call' is the word of operation 19 alone. -/
import Derived.Test.YtggkeodoenhmoaaDoorKnown
namespace Go.Proofs.YtggkeodoenhmoaaDoor
open Go.RowKit

/-- The table of words, as far as it is asked. -/
def WordsIn (w : World) : Prop := ∀ i : Nat, i < 20 → ∃ s, w.cell? ⟨0, i * 7, none⟩ = some (.string s) ∧ (s.toList = [99, 97, 108, 108] ↔ i = 19)

set_option maxHeartbeats 400000 in
theorem word_any (op : Int) (w : World) (hw : WordsIn w) :
    Calls Tryd.prog 24 #[.int .i64 op] w fun e w' => ∃ s, e = .returned (.string s) ∧ w = w' ∧ (s.toList = [99, 97, 108, 108] ↔ op = 19) := by
  by_cases h : 0 ≤ op ∧ op ≤ 19
  · obtain ⟨h1, h2⟩ := h
    obtain ⟨i, rfl⟩ := Int.eq_ofNat_of_zero_le h1
    obtain ⟨s, hs, he⟩ := hw i (by omega)
    have He : Hid (s.toList = [99, 97, 108, 108] ↔ ((i : Nat) : Int) = 19) := he.trans ⟨fun h => by omega, fun h => by omega⟩
    have Hw := Lib.hid hw
    have hk : knownB (i : Int) = true := by simp [knownB]; omega
    have hi : i < 20 := by omega
    clear hw h1 h2 he
    go_enter Tryd.func24, Tryd.ntmps24
    go_wp2_with fail
    refine (known_any _ _).mono ?_
    rintro e w' ⟨rfl, rfl⟩
    rw [hk]
    go_wp2_with fail
    go_ret
    exact ⟨s, rfl, rfl, He.out⟩
  · have hk : knownB op = false := by simp [knownB]; omega
    have Hk : Hid (¬ op = 19) := by show ¬ _; omega
    clear h hw
    go_enter Tryd.func24, Tryd.ntmps24
    go_wp2_with fail
    refine (known_any _ _).mono ?_
    rintro e w' ⟨rfl, rfl⟩
    rw [hk]
    go_wp2_with fail
    go_ret
    exact ⟨_, rfl, rfl, ⟨fun h => absurd h (by rw [ByteArray.toList_eq]; decide), fun h => absurd h Hk.out⟩⟩
end Go.Proofs.YtggkeodoenhmoaaDoor
