/- ranges: functions behind the one that is wrong first do not matter. -/
import Derived.Test.YtgobcldecokppaaRgStraight
namespace Go.Proofs.Ytgobcldecokppaa
open Go.RowKit Go.Maps

theorem Fn.rfault_at (f : Fn) (F : List Fn) (i : Nat) (h : (f.rfault F i).1 ≠ 0) : (f.rfault F i).2.1 = (i : Int) := by
  unfold Fn.rfault at h ⊢
  split
  · rfl
  · split
    · rfl
    · rename_i h1 h2
      rw [if_neg h1, if_neg h2] at h
      exact absurd rfl h
theorem Pg.rfault_ok {p : Pg} (h : p.nfault.1 = 0) : p.rfault = Fn.rfaults [] p.funcs 0 := by unfold Pg.rfault; rw [if_neg (by rw [h]; decide)]
theorem Pg.rfault_bad {p : Pg} (h : p.nfault.1 ≠ 0) : p.rfault = p.nfault := by unfold Pg.rfault; rw [if_pos h]
theorem Pg.first_rfault {p : Pg} (n : Nat) (hf : p.fault.1 = 0) (h : p.nfault.1 = 0) : (p.rfault.1 = 0 → (p.first n).rfault = (0, 0, 0)) ∧ (p.rfault.1 ≠ 0 → (p.rfault.2.1 < (n : Int) → (p.first n).rfault = p.rfault) ∧ ((n : Int) ≤ p.rfault.2.1 → (p.first n).rfault = (0, 0, 0))) := by
  have h1 : (p.first n).nfault.1 = 0 := by rw [(Pg.first_nfault n hf).1 h]
  rw [Pg.rfault_ok h, Pg.rfault_ok h1]
  have each : ∀ (j : Nat) y, (p.first n).funcs[j]? = some y → p.funcs[j]? = some y ∧ j < n ∧ (p.first n).funcs.take j = p.funcs.take j := fun j y hy => by
    have hj : j < n := by have := (List.getElem?_eq_some_iff.1 hy).1; simp [Pg.first] at this; omega
    refine ⟨?_, hj, ?_⟩
    · simpa [Pg.first, hj] using hy
    · simp only [Pg.first, List.take_take]; congr 1; omega
  rcases Fn.rfaults_cases [] p.funcs 0 with hn | ⟨i, x, hx, h0, hz⟩
  · rw [Fn.rfaults_none hn]
    refine ⟨fun _ => ?_, fun e => absurd rfl e⟩
    refine Fn.rfaults_none fun j y hy => ?_
    obtain ⟨h2, _, h3⟩ := each j y hy
    rw [h3]; exact hn j y h2
  · rw [Fn.rfaults_hit hx h0 hz]
    have ha := Fn.rfault_at _ _ _ hz
    refine ⟨fun e => absurd e hz, fun _ => ⟨fun hlt => ?_, fun hge => ?_⟩⟩
    · have hi : i < n := by omega
      have hx2 : (p.first n).funcs[i]? = some x := by simp [Pg.first, hi, hx]
      obtain ⟨_, _, h3⟩ := each i x hx2
      rw [Fn.rfaults_hit hx2 (fun j y hj hy => by
        obtain ⟨h4, _, h5⟩ := each j y hy
        rw [h5]; exact h0 j y hj h4) (by rw [h3]; exact hz), h3]
    · refine Fn.rfaults_none fun j y hy => ?_
      obtain ⟨h2, hj, h3⟩ := each j y hy
      rw [h3]; exact h0 j y (by omega) h2
theorem Pg.first_ncalls {p : Pg} {n : Nat} (hf : p.fault.1 = 0) (h : p.nfault.1 = 0) {i : Int} (hi : i < (n : Int)) : (p.first n).ncalls i = p.ncalls i := by
  have h1 : (p.first n).nfault.1 = 0 := by rw [(Pg.first_nfault n hf).1 h]
  unfold Pg.ncalls
  rw [h, h1]
  by_cases h0 : i < 0
  · rw [if_pos (.inr h0), if_pos (.inr h0)]
  · rw [if_neg (by rintro (e | e); exact e rfl; exact h0 e), if_neg (by rintro (e | e); exact e rfl; exact h0 e)]
    have hj : i.toNat < n := by omega
    have e1 : (p.first n).funcs[i.toNat]? = p.funcs[i.toNat]? := by simp [Pg.first, hj]
    have e2 : gAt (p.first n).funcs i.toNat = gAt p.funcs i.toNat := by
      unfold gAt Pg.first
      simp only [List.take_take]
      congr 2; omega
    rw [e1, e2]
theorem Pg.first_strF {p : Pg} {n : Nat} (hf : p.fault.1 = 0) (h : p.nfault.1 = 0) (params : Bool) : ∀ (m : Nat) (i : Int), 0 ≤ i → i < (n : Int) → (p.first n).strF params m i = p.strF params m i := by
  intro m
  induction m with
  | zero => intro i _ _; rfl
  | succ m ih =>
    intro i h0 hi
    simp only [Pg.strF]
    have e1 : (p.first n).aloneAt params i = p.aloneAt params i := by
      unfold Pg.aloneAt
      have hj : i.toNat < n := by omega
      have e : (p.first n).funcs[i.toNat]? = p.funcs[i.toNat]? := by simp [Pg.first, hj]
      rw [e]
    rw [e1, Pg.first_ncalls hf h hi]
    congr 1
    rw [Bool.eq_iff_iff, List.all_eq_true, List.all_eq_true]
    constructor
    · intro a k hk
      have := ncalls_lt hk
      rw [← ih k (by omega) (by omega)]; exact a k hk
    · intro a k hk
      have := ncalls_lt hk
      rw [ih k (by omega) (by omega)]; exact a k hk
theorem Pg.first_straight {p : Pg} {n : Nat} (h : p.rfault.1 = 0) (hn : n ≤ p.funcs.length) (params : Bool) : (p.first n).straight ((n : Int) - 1) params = p.straight ((n : Int) - 1) params := by
  obtain ⟨h1, h2⟩ := Pg.fault_of_rfault h
  unfold Pg.straight Pg.str
  rw [(Pg.first_rfault n h1 h2).1 h, h]
  have e : (p.first n).funcs.length = n := by simp [Pg.first]; omega
  rw [e]
  by_cases h0 : 0 < n
  · rw [Pg.first_strF h1 h2 params _ _ (by omega) (by omega), decide_eq_true (p := 0 ≤ (n : Int) - 1 ∧ (n : Int) - 1 < (n : Int)) (by omega), decide_eq_true (p := 0 ≤ (n : Int) - 1 ∧ (n : Int) - 1 < (p.funcs.length : Int)) (by omega)]
  · rw [decide_eq_false (p := 0 ≤ (n : Int) - 1 ∧ (n : Int) - 1 < (n : Int)) (by omega), decide_eq_false (p := 0 ≤ (n : Int) - 1 ∧ (n : Int) - 1 < (p.funcs.length : Int)) (by omega)]
    rfl
theorem Pg.first_rng {p : Pg} (h : p.rng) (n : Nat) : (p.first n).rng := fun f hf => h f (List.mem_of_mem_take hf)
end Go.Proofs.Ytgobcldecokppaa
