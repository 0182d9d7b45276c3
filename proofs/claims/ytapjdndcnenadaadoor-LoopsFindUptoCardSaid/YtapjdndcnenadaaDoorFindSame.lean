/- What FindIs says of a function's code is one answer alone. -/
import Derived.Test.YtapjdndcnenadaaDoorFindPlain
import Derived.Test.YtapjdndcnenadaaDoorRSame
namespace Go.Proofs.YtapjdndcnenadaaDoor
open Go.RowKit

theorem key_of {l l2 : List LP} (hd : l.map LP.d = l2.map LP.d) (hp : l.map LP.parent = l2.map LP.parent) : l.map LP.key = l2.map LP.key := by
  refine List.ext_getElem? fun i => ?_
  have h1 := congrArg (fun t => t[i]?) hd
  have h2 := congrArg (fun t => t[i]?) hp
  simp only [List.getElem?_map] at h1 h2 ⊢
  cases ha : l[i]? with
  | none =>
    cases hb : l2[i]? with
    | none => rfl
    | some y => rw [ha, hb] at h1; simp at h1
  | some x =>
    cases hb : l2[i]? with
    | none => rw [ha, hb] at h1; simp at h1
    | some y =>
      rw [ha, hb] at h1 h2
      simp [LP.d] at h1 h2
      simp [LP.key, h1.1, h1.2.1, h1.2.2, h2]
theorem findIs_same {code : List Ins} {l l2 : List LP} {E E2 a a2 : Int} (h : FindIs code l E a) (h2 : FindIs code l2 E2 a2) : E = E2 ∧ a = a2 ∧ l.map LP.key = l2.map LP.key := by
  rcases h with ⟨c1, rfl, rfl, rfl⟩ | ⟨c1, c2, rfl, rfl⟩ | ⟨c1, c2, rfl, k, hh, c3, c4, c5, c6⟩ | ⟨c1, c2, c3, rfl, rfl, c4, c5⟩ <;>
  rcases h2 with ⟨d1, rfl, rfl, rfl⟩ | ⟨d1, d2, rfl, rfl⟩ | ⟨d1, d2, rfl, k2, h2', d3, d4, d5, d6⟩ | ⟨d1, d2, d3, rfl, rfl, d4, d5⟩
  · exact ⟨rfl, rfl, rfl⟩
  · omega
  · omega
  · omega
  · omega
  · rcases c2 with ⟨_, _, _, r1, r2⟩ | ⟨h, _⟩
    · rcases d2 with ⟨_, _, _, s1, s2⟩ | ⟨h, _⟩
      · have e1 := r2 _ s1
        have e2 := s2 _ r1
        exact ⟨rfl, by omega, rfl⟩
      · cases h
    · cases h
  · rcases c2 with ⟨_, _, _, r1, _⟩ | ⟨h, _⟩
    · exact absurd r1 (d2 _)
    · cases h
  · rcases c2 with ⟨_, _, _, r1, _⟩ | ⟨h, _⟩
    · exact absurd r1 (d2 _)
    · cases h
  · omega
  · rcases d2 with ⟨_, _, _, r1, _⟩ | ⟨h, _⟩
    · exact absurd r1 (c2 _)
    · cases h
  · have hk : k = k2 := by
      rcases Nat.lt_trichotomy k k2 with h | h | h
      · have := d4 k hh h c3
        rw [c5] at this
        exact absurd this c6
      · exact h
      · have := c4 k2 h2' h d3
        rw [d5] at this
        exact absurd this d6
    subst hk
    rw [c3] at d3
    obtain rfl := Option.some.inj d3
    rw [c5] at d5
    have e := Prod.mk.inj d5
    exact ⟨e.1, e.2, rfl⟩
  · exact absurd (by have := d3 hh (List.mem_of_getElem? c3); rw [c5] at this; exact this) c6
  · omega
  · rcases d2 with ⟨_, _, _, r1, _⟩ | ⟨h, _⟩
    · exact absurd r1 (c2 _)
    · cases h
  · exact absurd (by have := c3 h2' (List.mem_of_getElem? d3); rw [d5] at this; exact this) d6
  · exact ⟨rfl, rfl, key_of (c4.trans d4.symm) (c5.trans d5.symm)⟩
/-- How many loops, members and back edges there are at most. -/
theorem findIs_len {code : List Ins} {l : List LP} {E a : Int} (h : FindIs code l E a) : l.length ≤ 1024 ∧ ∀ x ∈ l, x.mem.length ≤ 1024 ∧ x.backs.length ≤ 2048 ∧ x.mem ≠ [] ∧ x.backs ≠ [] := by
  rcases h with ⟨_, rfl, _⟩ | ⟨_, _, rfl, _⟩ | ⟨_, _, rfl, _⟩ | ⟨c1, _, _, _, _, c4, _⟩
  · exact ⟨by simp, fun x hx => absurd hx (by simp)⟩
  · exact ⟨by simp, fun x hx => absurd hx (by simp)⟩
  · exact ⟨by simp, fun x hx => absurd hx (by simp)⟩
  · have hl := congrArg List.length c4
    rw [List.length_map, List.length_map] at hl
    refine ⟨by have := headsL_len code; omega, fun x hx => ?_⟩
    have h1 : x.d ∈ l.map LP.d := List.mem_map_of_mem hx
    rw [c4] at h1
    obtain ⟨h', hh', e⟩ := List.mem_map.1 h1
    have e1 : x.mem = memL code h' := by have := congrArg (fun p => p.2.1) e; simpa [LP.d, loopD] using this.symm
    have e2 : x.backs = toI (backsE code) h' := by have := congrArg (fun p => p.2.2) e; simpa [LP.d, loopD] using this.symm
    refine ⟨by rw [e1]; exact Nat.le_trans (memL_len _ _) c1, by rw [e2]; exact toI_lenB _ _, ?_, by rw [e2]; exact headsL_mem.1 hh'⟩
    rw [e1]
    intro e3
    have : h' ∈ memL code h' := (memL_mem (headsL_in hh')).2 (.inl rfl)
    rw [e3] at this
    cases this
end Go.Proofs.YtapjdndcnenadaaDoor
