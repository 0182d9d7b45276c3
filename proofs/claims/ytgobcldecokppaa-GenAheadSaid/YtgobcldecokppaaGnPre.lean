/- gen: what the first functions come to, as plain laws. -/
import Derived.Test.YtgobcldecokppaaGnMod
namespace Go.Proofs.Ytgobcldecokppaa
open Go.RowKit Go.Maps

theorem gnAll_right : ∀ (l : List Fn) (i : Nat) (F : ByteArray → Int), (gnAll l i F).2.1 = 0 → (gnAll l i F).2 = (0, 0, 0) ∧ (gnAll l i F).1.length = l.length
  | [], _, _, _ => ⟨rfl, rfl⟩
  | f :: l, i, F, h => by
    simp only [gnAll] at h ⊢
    by_cases hb : (gnFun F f).bad = 0
    · rw [if_neg (by rw [hb]; decide)] at h ⊢
      have h1 := gnAll_right l (i + 1) _ h
      exact ⟨h1.1, by simp [h1.2]⟩
    · rw [if_pos hb] at h; exact absurd h hb
theorem gnAll_low : ∀ (l : List Fn) (i : Nat) (F : ByteArray → Int), (gnAll l i F).2.1 ≠ 0 → (i : Int) ≤ (gnAll l i F).2.2.1
  | [], _, _, h => absurd rfl h
  | f :: l, i, F, h => by
    simp only [gnAll] at h ⊢
    by_cases hb : (gnFun F f).bad = 0
    · rw [if_neg (by rw [hb]; decide)] at h ⊢
      have h1 := gnAll_low l (i + 1) _ h
      have h2 : ((i + 1 : Nat) : Int) = (i : Int) + 1 := by omega
      show (i : Int) ≤ (gnAll l (i + 1) (putF F f.name (i : Int))).2.2.1
      omega
    · rw [if_pos hb]; exact Int.le_refl _
theorem gnAll_take : ∀ (l : List Fn) (n i : Nat) (F : ByteArray → Int), ((gnAll l i F).2.1 = 0 → gnAll (l.take n) i F = ((gnAll l i F).1.take n, (0, 0, 0))) ∧
    ((gnAll l i F).2.1 ≠ 0 → ((gnAll l i F).2.2.1 < ((i + n : Nat) : Int) → (gnAll (l.take n) i F).2 = (gnAll l i F).2) ∧ (((i + n : Nat) : Int) ≤ (gnAll l i F).2.2.1 → (gnAll (l.take n) i F).2.1 = 0))
  | [], n, i, F => ⟨fun _ => by simp [gnAll], fun h => absurd rfl h⟩
  | f :: l, 0, i, F => ⟨fun _ => by simp [gnAll], fun h => ⟨fun h1 => by have := gnAll_low (f :: l) i F h; omega, fun _ => by simp [gnAll]⟩⟩
  | f :: l, n + 1, i, F => by
    have ih := gnAll_take l n (i + 1) (putF F f.name (i : Int))
    simp only [List.take_succ_cons, gnAll]
    by_cases hb : (gnFun F f).bad = 0
    · simp only [if_neg (show ¬ (gnFun F f).bad ≠ 0 by rw [hb]; decide)]
      refine ⟨fun h => ?_, fun h => ⟨fun h1 => ?_, fun h1 => ?_⟩⟩
      · rw [ih.1 h]; simp
      · exact (ih.2 h).1 (by rw [show i + 1 + n = i + (n + 1) by omega]; exact h1)
      · exact (ih.2 h).2 (by rw [show i + 1 + n = i + (n + 1) by omega]; exact h1)
    · simp only [if_pos hb]
      refine ⟨fun h => absurd h hb, fun h => ⟨fun _ => trivial, fun h1 => ?_⟩⟩
      exfalso
      have h1 : ((i + (n + 1) : Nat) : Int) ≤ (i : Int) := h1
      omega
end Go.Proofs.Ytgobcldecokppaa
