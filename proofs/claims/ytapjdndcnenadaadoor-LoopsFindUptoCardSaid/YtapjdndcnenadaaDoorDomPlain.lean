/- Dominance: the plain law. a dominates b: b can be reached, but not without a. -/
import Derived.Test.YtapjdndcnenadaaDoorClPlain
namespace Go.Proofs.YtapjdndcnenadaaDoor
open Go.RowKit

/-- a dominates b. -/
def Dom (code : List Ins) (a b : Nat) : Prop := Rch code (-1) a ∧ Rch code (-1) b ∧ (a = b ∨ ¬ Rch code (a : Int) b)

theorem Rch.any {code : List Ins} {g : Int} {v : Nat} (h : Rch code g v) : Rch code (-1) v := by
  induction h with
  | start _ => exact .start (by decide)
  | step _ hv _ ih => exact .step ih hv (by omega)
theorem Rch.ne {code : List Ins} {g : Int} {v : Nat} (h : Rch code g v) : (v : Int) ≠ g := by
  cases h with
  | start h => exact fun e => h e.symm
  | step _ _ h => exact h

theorem Dom.refl {code : List Ins} {a : Nat} (h : Rch code (-1) a) : Dom code a a := ⟨h, h, .inl rfl⟩

/-- On a way without a to x one comes by b, or goes without b. -/
theorem Rch.by {code : List Ins} {g : Int} {x : Nat} (b : Nat) (h : Rch code g x) : Rch code (b : Int) x ∨ Rch code g b := by
  induction h with
  | start hg =>
    by_cases hb : b = 0
    · subst hb; exact .inr (.start hg)
    · exact .inl (.start (by omega))
  | @step u v hu hv hg ih =>
    rcases ih with ih | ih
    · by_cases hb : v = b
      · subst hb; exact .inr (.step hu hv hg)
      · exact .inl (.step ih hv (by omega))
    · exact .inr ih

theorem Dom.trans {code : List Ins} {a b c : Nat} (h : Dom code a b) (k : Dom code b c) : Dom code a c := by
  obtain ⟨h1, h2, h3⟩ := h
  obtain ⟨k1, k2, k3⟩ := k
  refine ⟨h1, k2, ?_⟩
  rcases k3 with rfl | k3
  · exact h3
  · right
    intro hr
    rcases hr.by b with h | h
    · exact k3 h
    · rcases h3 with rfl | h3
      · exact h.ne rfl
      · exact h3 h

theorem Dom.antisymm {code : List Ins} {a b : Nat} (h : Dom code a b) (k : Dom code b a) : a = b := by
  obtain ⟨h1, h2, h3⟩ := h
  obtain ⟨_, _, k3⟩ := k
  rcases h3 with h3 | h3
  · exact h3
  rcases k3 with k3 | k3
  · exact k3.symm
  by_cases hab : a = b
  · exact hab
  exfalso
  have key : ∀ x, Rch code (-1) x → Rch code (a : Int) x ∧ Rch code (b : Int) x := by
    intro x hx
    induction hx with
    | start _ =>
      by_cases ha : a = 0
      · exact absurd (by rw [ha]; exact Rch.start (by omega)) k3
      · by_cases hb : b = 0
        · exact absurd (by rw [hb]; exact Rch.start (by omega)) h3
        · exact ⟨.start (by omega), .start (by omega)⟩
    | @step u v hu hv _ ih =>
      obtain ⟨i1, i2⟩ := ih
      have va : v ≠ a := fun h => k3 (by rw [← h]; exact .step i2 hv (by omega))
      have vb : v ≠ b := fun h => h3 (by rw [← h]; exact .step i1 hv (by omega))
      exact ⟨.step i1 hv (by omega), .step i2 hv (by omega)⟩
  exact (key a h1).1.ne rfl

/-- Of two that dominate a third one, one dominates the other. -/
theorem Dom.total {code : List Ins} {a b c : Nat} (h : Dom code a c) (k : Dom code b c) : Dom code a b ∨ Dom code b a := by
  obtain ⟨h1, h2, h3⟩ := h
  obtain ⟨k1, _, k3⟩ := k
  by_cases hab : a = b
  · subst hab; exact .inl (.refl h1)
  by_cases r1 : Rch code (a : Int) b
  · by_cases r2 : Rch code (b : Int) a
    · exfalso
      have key : ∀ x, Rch code (-1) x → Rch code (a : Int) x ∨ Rch code (b : Int) x := by
        intro x hx
        induction hx with
        | start _ =>
          by_cases ha : a = 0
          · exact .inr (.start (by omega))
          · exact .inl (.start (by omega))
        | @step u v hu hv _ ih =>
          rcases ih with ih | ih
          · by_cases hv2 : v = a
            · rw [hv2]; exact .inr r2
            · exact .inl (.step ih hv (by omega))
          · by_cases hv2 : v = b
            · rw [hv2]; exact .inl r1
            · exact .inr (.step ih hv (by omega))
      rcases h3 with rfl | h3
      · rcases k3 with rfl | k3
        · exact hab rfl
        · exact k3 r2
      · rcases k3 with rfl | k3
        · exact h3 r1
        · rcases key c h2 with h | h
          · exact h3 h
          · exact k3 h
    · exact .inr ⟨k1, h1, .inr r2⟩
  · exact .inl ⟨h1, k1, .inr r1⟩

/-- 0 dominates all that can be reached. -/
theorem Dom.zero {code : List Ins} {b : Nat} (h : Rch code (-1) b) : Dom code 0 b := by
  refine ⟨.start (by decide), h, ?_⟩
  right
  intro hr
  have key : ∀ x, ¬ Rch code ((0 : Nat) : Int) x := by
    intro x hx
    induction hx with
    | start h => exact h rfl
    | step _ _ _ ih => exact ih
  exact key _ hr
theorem Dom.of_zero {code : List Ins} {a : Nat} (h : Dom code a 0) : a = 0 := h.antisymm (.zero h.1)

/-- A dominator of v other than v dominates each that leads to v. -/
theorem Dom.pred {code : List Ins} {a u v : Nat} (h : Dom code a v) (hne : a ≠ v) (hu : Rch code (-1) u) (hv : (v : Int) ∈ nextL code u) : Dom code a u := by
  obtain ⟨h1, h2, h3⟩ := h
  refine ⟨h1, hu, ?_⟩
  by_cases hau : a = u
  · exact .inl hau
  · right
    intro hr
    rcases h3 with h3 | h3
    · exact hne h3
    · exact h3 (.step hr hv (by omega))

/-- The nearest dominators: -1 at the first one and at what can't be reached. -/
structure IsTree (code : List Ins) (near : List Int) : Prop where
  len : near.length = code.length
  none : ∀ v, v < code.length → (v = 0 ∨ ¬ Rch code (-1) v) → near.getD v 0 = -1
  some : ∀ v, v < code.length → v ≠ 0 → Rch code (-1) v → ∃ p : Nat, near.getD v 0 = p ∧ p ≠ v ∧ Dom code p v ∧ ∀ a, Dom code a v → a ≠ v → Dom code a p

theorem IsTree.uniq {code : List Ins} {l m : List Int} (h : IsTree code l) (k : IsTree code m) : l = m := by
  apply List.ext_getElem (by rw [h.len, k.len])
  intro v hv hv2
  have e1 : l.getD v 0 = l[v] := by simp [List.getD, hv]
  have e2 : m.getD v 0 = m[v] := by simp [List.getD, hv2]
  rw [← e1, ← e2]
  have hvc : v < code.length := by rw [← h.len]; exact hv
  by_cases h0 : v = 0 ∨ ¬ Rch code (-1) v
  · rw [h.none v hvc h0, k.none v hvc h0]
  · have h1 : v ≠ 0 := fun e => h0 (.inl e)
    have h2 : Rch code (-1) v := Classical.byContradiction fun e => h0 (.inr e)
    obtain ⟨p, hp, hpv, hd, hall⟩ := h.some v hvc h1 h2
    obtain ⟨q, hq, hqv, hd2, hall2⟩ := k.some v hvc h1 h2
    rw [hp, hq, (hall q hd2 hqv).antisymm (hall2 p hd hpv)]
end Go.Proofs.YtapjdndcnenadaaDoor
