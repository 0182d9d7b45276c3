/- A region that draws its order, walked by what stands whichever operations have been carried out. -/
import Derived.Test.YtgcplcffejbniaaGreatBase
import Derived.Deep.RegionHeld3
namespace Go.Proofs.YtgcplcffejbniaaGreat
open Go.RowKit

theorem count_set {l : List Bool} {i : Nat} (hi : i < l.length) (h : l.getD i false = false) : (l.set i true).count false + 1 = l.count false := by
  induction l generalizing i with
  | nil => simp at hi
  | cons b l ih =>
    cases i with
    | zero => simp [List.getD] at h; subst h; simp
    | succ i =>
      have := ih (i := i) (by simpa using hi) (by simpa [List.getD] using h)
      cases b <;> simp <;> omega

theorem ready_spec {md : Region.Mode} {ops : Array Oper} {L : Array Bool} {i : Nat} (h : i ∈ Region.ready md ops L) : ∃ o, ops[i]? = some o ∧ i < ops.size ∧ L.getD i true = false ∧ ∀ e ∈ o.after, Region.binds md e = true → L.getD e.on false = true := by
  unfold Region.ready at h
  obtain ⟨h1, h2⟩ := List.mem_filter.1 h
  have hlt := List.mem_range.1 h1
  simp only [Bool.and_eq_true, Bool.not_eq_true'] at h2
  obtain ⟨h3, h4⟩ := h2
  have ho : ops[i]? = some (ops[i]'hlt) := Array.getElem?_eq_getElem hlt
  rw [ho] at h4
  simp only [Option.map_some, Option.getD_some] at h4
  refine ⟨_, ho, hlt, h3, fun e he hb => ?_⟩
  have := Array.all_eq_true'.1 h4 e he
  simp only [hb, Bool.not_true, Bool.false_or] at this
  exact this
theorem ready_mk {md : Region.Mode} {ops : Array Oper} {L : Array Bool} {i : Nat} {o : Oper} (ho : ops[i]? = some o) (hi : L.getD i true = false) (h : ∀ e ∈ o.after, Region.binds md e = true → L.getD e.on false = true) : i ∈ Region.ready md ops L := by
  unfold Region.ready
  have hlt : i < ops.size := (Array.getElem?_eq_some_iff.1 ho).1
  refine List.mem_filter.2 ⟨List.mem_range.2 hlt, ?_⟩
  rw [hi, ho]
  simp only [Bool.not_false, Bool.true_and, Option.map_some, Option.getD_some]
  refine Array.all_eq_true'.2 fun e he => ?_
  cases hb : Region.binds md e
  · rfl
  · simp only [Bool.not_true, Bool.false_or]; exact h e he hb

theorem wpOp_of_list {P : Program} {ops : Array Oper} {Q : Exit → Act → World → Prop} {i : Nat} {o : Oper} {K : Act → World → Prop} {a : Act} {w : World} (ho : ops[i]? = some o)
    (h : wpList P ops (fun ex a w => ex = .normal ∧ K a w) [o] a w) (hno : ¬ LetsOut (fun ex a w => ex = .normal ∧ K a w)) : wpOp P ops Q i K a w := by
  unfold wpOp
  rw [ho]
  simp only
  unfold wpList at h
  split
  · rename_i hw
    rw [if_pos hw] at h
    rcases h with h | ⟨_, h⟩
    · refine .inl ?_
      unfold Oper.wp at *
      generalize (execOp a.eval o).run P w = r at *
      cases r with
      | ok x w' =>
        cases x with
        | value v => exact h.2
        | skip => exact h.2
        | defer d => exact h.2
        | enter f args =>
          refine Calls.mono h fun e w'' he => ?_
          cases e with
          | returned v => exact he.2
          | panicked c => cases he.1
          | outgrown => exact absurd he hno
        | row r args => exact Rows.mono h fun _ _ he => he.2
        | _ => exact h.elim
      | halt x w' =>
        cases x with
        | panic v => cases h.1
        | _ => exact h.elim
    · exact absurd h hno
  · rename_i hw
    rw [if_neg hw] at h
    exact h.2

theorem wpAny_inv {P : Program} {md : Region.Mode} {ops : Array Oper} {Q : Exit → Act → World → Prop} (Inv : Array Bool → Act → World → Prop)
    (hstep : ∀ L a w i, L.size = ops.size → Inv L a w → i ∈ Region.ready md ops L → wpOp P ops Q i (Inv (L.setIfInBounds i true)) a w)
    (hend : ∀ L a w, L.size = ops.size → Inv L a w → Region.ready md ops L = [] → Q .normal a w) :
    ∀ (fuel : Nat) (L : Array Bool) (a : Act) (w : World), L.size = ops.size → L.toList.count false ≤ fuel → Inv L a w → wpAny P md ops Q fuel L a w
  | 0, L, a, w, hs, hc, h => by
    have hr : Region.ready md ops L = [] := by
      rw [List.eq_nil_iff_forall_not_mem]
      intro i hi
      obtain ⟨o, ho, hlt, hf, _⟩ := ready_spec hi
      have h0 : L.toList.count false = 0 := by omega
      rw [List.count_eq_zero] at h0
      apply h0
      have hl : i < L.size := by omega
      rw [Array.getD_eq_getD_getElem?, Array.getElem?_eq_getElem hl] at hf
      simp at hf
      rw [← hf]
      exact Array.getElem_mem_toList hl
    exact ⟨hr, hend L a w hs h hr⟩
  | fuel + 1, L, a, w, hs, hc, h => by
    refine ⟨fun hr => hend L a w hs h hr, fun i hi => ?_⟩
    obtain ⟨o, ho, hlt, hf, _⟩ := ready_spec hi
    have hl : i < L.size := by omega
    refine wpOp_mono (fun a w hI => wpAny_inv Inv hstep hend fuel _ a w (by simp [hs]) ?_ hI) (hstep L a w i hs h hi)
    rw [Array.getD_eq_getD_getElem?, Array.getElem?_eq_getElem hl] at hf
    simp at hf
    have e : (L.setIfInBounds i true).toList = L.toList.set i true := by simp
    rw [e]
    have := count_set (l := L.toList) (i := i) (by simpa using hl) (by simp [List.getD, hl, hf])
    omega
theorem all_listed {md : Region.Mode} {ops : Array Oper} {L : Array Bool} (hs : L.size = ops.size) (hchk : ((List.range ops.size).all fun i => ((ops[i]?).map (·.after.all fun e => decide (e.on < i))).getD true) = true) (hr : Region.ready md ops L = []) :
    ∀ i, i < ops.size → L.getD i false = true := by
  intro i
  induction i using Nat.strongRecOn with
  | _ i ih =>
    intro hi
    apply Classical.byContradiction
    intro hn
    have hl : i < L.size := by omega
    have hf : L.getD i true = false := by
      rw [Array.getD_eq_getD_getElem?, Array.getElem?_eq_getElem hl] at hn ⊢
      simpa using hn
    have ho : ops[i]? = some (ops[i]'hi) := Array.getElem?_eq_getElem hi
    have hc := List.all_eq_true.1 hchk i (List.mem_range.2 hi)
    rw [ho] at hc
    simp only [Option.map_some, Option.getD_some] at hc
    have hm : i ∈ Region.ready md ops L := ready_mk ho hf (fun e he _ => by
      have := of_decide_eq_true (Array.all_eq_true'.1 hc e he)
      exact ih e.on this (by omega))
    rw [hr] at hm
    simp at hm
theorem getD_set_ne {L : Array Bool} {i k : Nat} (h : (L.setIfInBounds i true).getD k false = true) (hk : k ≠ i) : L.getD k false = true := by
  rw [Array.getD_eq_getD_getElem?, Array.getElem?_setIfInBounds_ne (by omega)] at h
  rw [Array.getD_eq_getD_getElem?]; exact h
theorem listed_of {L : Array Bool} {i n : Nat} (hs : L.size = n) (hi : i < n) (h : ¬ L.getD i true = false) : L.getD i false = true := by
  have hl : i < L.size := by omega
  rw [Array.getD_eq_getD_getElem?, Array.getElem?_eq_getElem hl] at h ⊢
  simpa using h
end Go.Proofs.YtgcplcffejbniaaGreat
