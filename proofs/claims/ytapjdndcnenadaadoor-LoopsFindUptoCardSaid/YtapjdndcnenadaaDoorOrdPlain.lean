/- A search in depth, its instructions as it leaves them: the plain law. -/
import Derived.Test.YtapjdndcnenadaaDoorDomPlain
namespace Go.Proofs.YtapjdndcnenadaaDoor
open Go.RowKit

abbrev ats (st : List (Nat × Nat)) : List Nat := st.map (·.1)

structure DInv (code : List Ins) (been : List Bool) (st : List (Nat × Nat)) (out : List Nat) : Prop where
  len : been.length = code.length
  mark : ∀ v, v < code.length → (been.getD v false = true ↔ (v ∈ ats st ∨ v ∈ out))
  nodup : (ats st ++ out).Nodup
  rch : ∀ v, v ∈ ats st ∨ v ∈ out → Rch code (-1) v
  bot : (ats st)[0]? = some 0 ∨ (st = [] ∧ out[out.length - 1]? = some 0)
  chain : ∀ i a b, st[i]? = some a → st[i + 1]? = some b → (b.1 : Int) ∈ nextL code a.1
  way : ∀ s ∈ st, s.2 ≤ (nextL code s.1).length ∧ ∀ w ∈ (nextL code s.1).take s.2, been.getD w.toNat false = true
  closed : ∀ v ∈ out, ∀ w ∈ nextL code v, been.getD w.toNat false = true
  par : ∀ (i v : Nat), out[i]? = some v → v ≠ 0 → ∃ p : Nat, (v : Int) ∈ nextL code p ∧ (p ∈ ats st ∨ ∃ j, i < j ∧ out[j]? = some p)

theorem DInv.start {code : List Ins} (h : 0 < code.length) : DInv code ((List.replicate code.length false).set 0 true) [(0, 0)] [] := by
  refine ⟨by simp, fun v hv => ?_, by simp, fun v hv => ?_, .inl rfl, fun i a b h1 h2 => by simp at h2, fun s hs => ?_, fun v hv => by simp at hv, fun i v h => by simp at h⟩
  · rw [getD_set_any]
    by_cases h0 : v = 0
    · subst h0; simp [h]
    · rw [if_neg (fun e => h0 e.1)]
      simp [List.getD, hv, h0]
  · simp at hv; subst hv; exact .start (by decide)
  · simp at hs; subst hs; simp

theorem ats_snoc (t : List (Nat × Nat)) (x : Nat × Nat) : ats (t ++ [x]) = ats t ++ [x.1] := by simp [ats]

theorem DInv.pop {code : List Ins} {been : List Bool} {t : List (Nat × Nat)} {v k : Nat} {out : List Nat} (h : DInv code been (t ++ [(v, k)]) out) (hk : (nextL code v).length ≤ k) : DInv code been t (out ++ [v]) := by
  have hm := h.mark
  have hn := h.nodup
  have hr := h.rch
  have hb := h.bot
  have hc := h.chain
  have hw := h.way
  have hp := h.par
  simp only [ats_snoc, List.mem_append, List.mem_singleton] at hm hn hr hb hp
  refine ⟨h.len, fun u hu => ?_, ?_, fun u hu => ?_, ?_, fun i a b h1 h2 => hc i a b ?_ ?_, fun s hs => hw s (by simp [hs]), fun u hu w hw2 => ?_, fun i u h1 h2 => ?_⟩
  · rw [hm u hu, List.mem_append, List.mem_singleton]
    constructor
    · rintro ((h | h) | h)
      · exact .inl h
      · exact .inr (.inr h)
      · exact .inr (.inl h)
    · rintro (h | h | h)
      · exact .inl (.inl h)
      · exact .inr h
      · exact .inl (.inr h)
  · have e : (ats t ++ [v] ++ out).Perm (ats t ++ (out ++ [v])) := by
      rw [List.append_assoc]
      exact List.Perm.append_left _ List.perm_append_comm
    exact e.nodup_iff.1 hn
  · simp only [List.mem_append, List.mem_singleton] at hu
    rcases hu with h | h | h
    · exact hr u (.inl (.inl h))
    · exact hr u (.inr h)
    · exact hr u (.inl (.inr h))
  · rcases hb with hb | ⟨hb, _⟩
    · cases t with
      | nil => right; simp at hb; simp [hb]
      | cons x t => left; simpa using hb
    · simp at hb
  · rw [List.getElem?_append_left (List.getElem?_eq_some_iff.1 h1).1]; exact h1
  · rw [List.getElem?_append_left (List.getElem?_eq_some_iff.1 h2).1]; exact h2
  · rw [List.mem_append, List.mem_singleton] at hu
    rcases hu with hu | rfl
    · exact h.closed u hu w hw2
    · refine (hw (u, k) (by simp)).2 w ?_
      rw [List.take_of_length_le hk]; exact hw2
  · by_cases hi : i < out.length
    · rw [List.getElem?_append_left hi] at h1
      obtain ⟨p, h3, h4⟩ := hp i u h1 h2
      refine ⟨p, h3, ?_⟩
      rcases h4 with (h4 | rfl) | ⟨j, h4, h5⟩
      · exact .inl h4
      · exact .inr ⟨out.length, hi, by simp⟩
      · exact .inr ⟨j, h4, by rw [List.getElem?_append_left (List.getElem?_eq_some_iff.1 h5).1]; exact h5⟩
    · have hl := (List.getElem?_eq_some_iff.1 h1).1
      simp at hl
      obtain rfl : i = out.length := by omega
      simp at h1
      subst h1
      rcases snoc_cases t with rfl | ⟨t', x, rfl⟩
      · simp at hb; omega
      · refine ⟨x.1, ?_, .inl (by simp)⟩
        exact hc t'.length x (v, k) (by simp) (by simp)

theorem DInv.pass {code : List Ins} {been : List Bool} {t : List (Nat × Nat)} {v k w : Nat} {out : List Nat} (h : DInv code been (t ++ [(v, k)]) out) (hk : k < (nextL code v).length) (hw : (nextL code v).getD k 0 = w) (hm : been.getD w false = true) :
    DInv code been (t ++ [(v, k + 1)]) out := by
  have ea : ats (t ++ [(v, k + 1)]) = ats (t ++ [(v, k)]) := by rw [ats_snoc, ats_snoc]
  have hc := h.chain
  have hwy := h.way
  refine ⟨h.len, by rw [ea]; exact h.mark, by rw [ea]; exact h.nodup, by rw [ea]; exact h.rch, ?_, fun i a b h1 h2 => ?_, fun s hs => ?_, h.closed, by rw [ea]; exact h.par⟩
  · rcases h.bot with hb | ⟨hb, _⟩
    · left; rw [ea]; exact hb
    · simp at hb
  · have key : ∀ (j : Nat) (c : Nat × Nat), (t ++ [(v, k + 1)])[j]? = some c → ∃ d, (t ++ [(v, k)])[j]? = some d ∧ d.1 = c.1 := by
      intro j c hj
      by_cases hjt : j < t.length
      · rw [List.getElem?_append_left hjt] at hj ⊢
        exact ⟨c, hj, rfl⟩
      · have hl := (List.getElem?_eq_some_iff.1 hj).1
        simp at hl
        obtain rfl : j = t.length := by omega
        simp at hj ⊢
        rw [← hj]
    obtain ⟨a', g1, g2⟩ := key i a h1
    obtain ⟨b', g3, g4⟩ := key (i + 1) b h2
    have := hc i a' b' g1 g3
    rwa [g2, g4] at this
  · rw [List.mem_append, List.mem_singleton] at hs
    rcases hs with hs | rfl
    · exact hwy s (List.mem_append_left _ hs)
    · have := hwy (v, k) (by simp)
      refine ⟨hk, fun x hx => ?_⟩
      rcases mem_take_succ hk hx with hx | hx
      · exact this.2 x hx
      · rw [hx, hw]; simpa using hm

theorem DInv.push {code : List Ins} {been : List Bool} {t : List (Nat × Nat)} {v k w : Nat} {out : List Nat} (h : DInv code been (t ++ [(v, k)]) out) (hk : k < (nextL code v).length) (hw : (nextL code v).getD k 0 = w) (hm : been.getD w false = false) :
    DInv code (been.set w true) (t ++ [(v, k + 1)] ++ [(w, 0)]) out := by
  have hwm : (w : Int) ∈ nextL code v := by rw [← hw]; exact getD_mem hk
  have hwl : w < code.length := by have := (nextL_range hwm).2.1; omega
  have hvr : Rch code (-1) v := h.rch v (.inl (by simp))
  have hwr : Rch code (-1) w := .step hvr hwm (by omega)
  have hnot : ¬ (w ∈ ats (t ++ [(v, k)]) ∨ w ∈ out) := by rw [← h.mark w hwl, hm]; decide
  have hkeep : ∀ u, been.getD u false = true → (been.set w true).getD u false = true := fun u hu => by
    rw [getD_set_any]; split
    · rfl
    · exact hu
  have ea : ats (t ++ [(v, k + 1)] ++ [(w, 0)]) = ats (t ++ [(v, k)]) ++ [w] := by rw [ats_snoc, ats_snoc, ats_snoc]
  have hc := h.chain
  have hwy := h.way
  refine ⟨by rw [List.length_set]; exact h.len, fun u hu => ?_, ?_, fun u hu => ?_, ?_, fun i a b h1 h2 => ?_, fun s hs => ?_, fun u hu x hx => hkeep _ (h.closed u hu x hx), fun i u h1 h2 => ?_⟩
  · rw [getD_set_any, ea, List.mem_append, List.mem_singleton]
    by_cases huw : u = w
    · subst huw
      rw [if_pos ⟨rfl, by rw [h.len]; exact hu⟩]
      simp
    · rw [if_neg (fun e => huw e.1), h.mark u hu]
      simp [huw]
  · rw [ea]
    have e : (w :: (ats (t ++ [(v, k)]) ++ out)).Perm (ats (t ++ [(v, k)]) ++ [w] ++ out) := by
      rw [List.append_assoc]
      exact List.perm_middle.symm
    refine e.nodup_iff.1 (List.nodup_cons.2 ⟨?_, h.nodup⟩)
    rw [List.mem_append]; exact hnot
  · rw [ea, List.mem_append, List.mem_singleton] at hu
    rcases hu with (hu | rfl) | hu
    · exact h.rch u (.inl hu)
    · exact hwr
    · exact h.rch u (.inr hu)
  · rcases h.bot with hb | ⟨hb, _⟩
    · left; rw [ea, List.getElem?_append_left (List.getElem?_eq_some_iff.1 hb).1]; exact hb
    · simp at hb
  · have key : ∀ (j : Nat) (c : Nat × Nat), (t ++ [(v, k + 1)] ++ [(w, 0)])[j]? = some c → (j < t.length + 1 ∧ ∃ d, (t ++ [(v, k)])[j]? = some d ∧ d.1 = c.1) ∨ (j = t.length + 1 ∧ c = (w, 0)) := by
      intro j c hj
      by_cases hjt : j < t.length
      · rw [List.append_assoc, List.getElem?_append_left hjt] at hj
        exact .inl ⟨by omega, c, by rw [List.getElem?_append_left hjt]; exact hj, rfl⟩
      · have hl := (List.getElem?_eq_some_iff.1 hj).1
        simp at hl
        by_cases hj2 : j = t.length
        · subst hj2
          left
          refine ⟨by omega, (v, k), by simp, ?_⟩
          rw [List.getElem?_append_left (by simp)] at hj
          simp at hj; rw [← hj]
        · obtain rfl : j = t.length + 1 := by omega
          right
          rw [List.getElem?_append_right (by simp)] at hj
          simp at hj
          exact ⟨rfl, hj.symm⟩
    rcases key i a h1 with ⟨_, a', g1, g2⟩ | ⟨hi, _⟩
    · rcases key (i + 1) b h2 with ⟨_, b', g3, g4⟩ | ⟨hi, rfl⟩
      · have := hc i a' b' g1 g3
        rwa [g2, g4] at this
      · obtain rfl : i = t.length := by omega
        simp at g1
        rw [← g2, ← g1]
        exact hwm
    · have hl := (List.getElem?_eq_some_iff.1 h2).1
      simp at hl; omega
  · rw [List.mem_append, List.mem_append, List.mem_singleton, List.mem_singleton] at hs
    rcases hs with (hs | rfl) | rfl
    · have := hwy s (List.mem_append_left _ hs)
      exact ⟨this.1, fun x hx => hkeep _ (this.2 x hx)⟩
    · have := hwy (v, k) (by simp)
      refine ⟨hk, fun x hx => ?_⟩
      rcases mem_take_succ hk hx with hx | hx
      · exact hkeep _ (this.2 x hx)
      · rw [hx, hw, getD_set_any, if_pos ⟨by simp, by rw [h.len]; exact hwl⟩]
    · simp
  · obtain ⟨p, g1, g2⟩ := h.par i u h1 h2
    refine ⟨p, g1, ?_⟩
    rcases g2 with g2 | g2
    · left; rw [ea]; exact List.mem_append_left _ g2
    · exact .inr g2

/-- An order of what can be reached: 0 first, each other one behind one that leads to it. -/
structure OrdOK (code : List Ins) (l : List Nat) : Prop where
  nodup : l.Nodup
  mem : ∀ v, v ∈ l ↔ Rch code (-1) v
  first : l[0]? = some 0
  par : ∀ (i v : Nat), 0 < i → l[i]? = some v → ∃ j p : Nat, j < i ∧ l[j]? = some p ∧ (v : Int) ∈ nextL code p

theorem DInv.done {code : List Ins} {been : List Bool} {out : List Nat} (h : DInv code been [] out) : OrdOK code out.reverse := by
  have hn := h.nodup
  have hm := h.mark
  simp only [ats, List.map_nil, List.nil_append, List.not_mem_nil, false_or] at hn hm
  have hlast : out[out.length - 1]? = some 0 := by
    rcases h.bot with hb | ⟨_, hb⟩
    · simp at hb
    · exact hb
  have hpos : 0 < out.length := by have := (List.getElem?_eq_some_iff.1 hlast).1; omega
  have hmem : ∀ v, Rch code (-1) v → v ∈ out := by
    intro v hv
    induction hv with
    | start _ => exact List.mem_of_getElem? hlast
    | @step u v hu hv _ ih =>
      have := h.closed u ih v hv
      have hl := (nextL_range hv).2.1
      exact (hm v (by omega)).1 (by simpa using this)
  refine ⟨(List.reverse_perm out).nodup_iff.2 hn, fun v => ?_, ?_, fun i v hi hv => ?_⟩
  · rw [List.mem_reverse]
    exact ⟨fun hv => h.rch v (.inr hv), hmem v⟩
  · rw [List.getElem?_reverse hpos]
    simpa using hlast
  · have hl := (List.getElem?_eq_some_iff.1 hv).1
    rw [List.length_reverse] at hl
    rw [List.getElem?_reverse hl] at hv
    have hv0 : v ≠ 0 := by
      intro h0
      subst h0
      obtain ⟨h1, h2⟩ := List.getElem?_eq_some_iff.1 hlast
      obtain ⟨h3, h4⟩ := List.getElem?_eq_some_iff.1 hv
      have := (List.nodup_iff_pairwise_ne.1 hn)
      have h5 := List.pairwise_iff_getElem.1 this (out.length - 1 - i) (out.length - 1) h3 h1 (by omega)
      rw [h2, h4] at h5
      exact h5 rfl
    obtain ⟨p, h1, h2⟩ := h.par _ v hv hv0
    rcases h2 with h2 | ⟨j, h2, h3⟩
    · simp at h2
    · have hj := (List.getElem?_eq_some_iff.1 h3).1
      refine ⟨out.length - 1 - j, p, by omega, ?_, h1⟩
      rw [List.getElem?_reverse (by omega)]
      rw [show out.length - 1 - (out.length - 1 - j) = j by omega]
      exact h3

theorem DInv.small {code : List Ins} {been : List Bool} {st : List (Nat × Nat)} {out : List Nat} (hh : 0 < code.length) (h : DInv code been st out) : st.length + out.length ≤ code.length := by
  have : (ats st ++ out).length ≤ (List.range code.length).length := by
    refine List.Nodup.length_le_of_subset h.nodup ?_
    intro v hv
    rw [List.mem_range]
    exact (h.rch v (List.mem_append.1 hv)).lt hh
  simpa [ats] using this
end Go.Proofs.YtapjdndcnenadaaDoor
