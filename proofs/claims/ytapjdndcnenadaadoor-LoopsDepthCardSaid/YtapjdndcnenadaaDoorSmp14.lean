/- The samples of layer 14: their loops. -/
import Derived.Test.YtapjdndcnenadaaDoorFind
namespace Go.Proofs.YtapjdndcnenadaaDoor
open Go.RowKit

def s3 : List Ins := [⟨17, 0, 1, 0, 4⟩, ⟨15, 2, 0, 0, 3⟩, ⟨3, 3, 3, 0, 0⟩, ⟨18, 0, 0, 0, 0⟩, ⟨0, 3, 0, 0, 0⟩]
def s1 : List Ins := [⟨17, 0, 1, 0, 4⟩, ⟨15, 2, 0, 0, 3⟩, ⟨3, 1, 3, 0, 0⟩, ⟨18, 0, 0, 0, 0⟩, ⟨0, 3, 0, 0, 0⟩]
def Smp (code : List Ins) : Prop := code = s3 ∨ code = s1

theorem smp_len {code : List Ins} (h : Smp code) : code.length = 5 := by rcases h with rfl | rfl <;> rfl
theorem smp_n0 {code : List Ins} (h : Smp code) : nextL code 0 = [1, 4] := by rcases h with rfl | rfl <;> decide +kernel
theorem smp_n1 {code : List Ins} (h : Smp code) : nextL code 1 = [2, 3] := by rcases h with rfl | rfl <;> decide +kernel
theorem smp_n2 {code : List Ins} (h : Smp code) : nextL code 2 = [3] := by rcases h with rfl | rfl <;> decide +kernel
theorem smp_n3 {code : List Ins} (h : Smp code) : nextL code 3 = [0] := by rcases h with rfl | rfl <;> decide +kernel
theorem smp_n4 {code : List Ins} (h : Smp code) : nextL code 4 = [] := by rcases h with rfl | rfl <;> decide +kernel
theorem smp_r0 {code : List Ins} {g : Int} (h0 : g ≠ 0) : Rch code g 0 := .start h0
theorem smp_r1 {code : List Ins} (h : Smp code) {g : Int} (h0 : g ≠ 0) (h1 : (1 : Int) ≠ g) : Rch code g 1 := .step (smp_r0 h0) (by rw [show ((0 : Nat) : Int) = 0 from rfl, smp_n0 h]; simp) h1
theorem smp_r2 {code : List Ins} (h : Smp code) {g : Int} (h0 : g ≠ 0) (h1 : (1 : Int) ≠ g) (h2 : (2 : Int) ≠ g) : Rch code g 2 := .step (smp_r1 h h0 h1) (by rw [show ((1 : Nat) : Int) = 1 from rfl, smp_n1 h]; simp) h2
theorem smp_reach {code : List Ins} (h : Smp code) : reachL code (-1) = [true, true, true, true, true] := by
  have h0 : Rch code (-1) 0 := smp_r0 (by decide)
  have h1 : Rch code (-1) 1 := smp_r1 h (by decide) (by decide)
  have h2 : Rch code (-1) 2 := smp_r2 h (by decide) (by decide) (by decide)
  have h3 : Rch code (-1) 3 := .step h2 (by rw [show ((2 : Nat) : Int) = 2 from rfl, smp_n2 h]; simp) (by decide)
  have h4 : Rch code (-1) 4 := .step h0 (by rw [show ((0 : Nat) : Int) = 0 from rfl, smp_n0 h]; simp) (by decide)
  symm
  refine reachL_of (by rcases h with rfl | rfl <;> decide) (by rw [smp_len h]; rfl) ?_ (fun _ => by decide) ?_
  · intro v hv _
    rw [smp_len h] at hv
    match v, hv with
    | 0, _ => exact h0
    | 1, _ => exact h1
    | 2, _ => exact h2
    | 3, _ => exact h3
    | 4, _ => exact h4
  · intro u v _ hv _ _ _
    rw [smp_len h] at hv
    match v, hv with
    | 0, _ => rfl
    | 1, _ => rfl
    | 2, _ => rfl
    | 3, _ => rfl
    | 4, _ => rfl
theorem smp_edges {code : List Ins} (h : Smp code) : edgesL code = [(0, 1), (0, 4), (1, 2), (1, 3), (2, 3), (3, 0)] := by
  unfold edgesL
  rw [smp_reach h]
  rcases h with rfl | rfl <;> decide +kernel
theorem smp_not {code : List Ins} {u v : Nat} (hne : v ≠ u) (h : Rch code v u) : isBack code ((u : Int), (v : Int)) = false := by
  rw [Bool.eq_false_iff]
  intro e
  rcases (isBack_iff.1 e).2.2 with e | e
  · exact hne e
  · exact e h
theorem smp_b01 {code : List Ins} : isBack code (0, 1) = false := smp_not (u := 0) (v := 1) (by decide) (smp_r0 (by decide))
theorem smp_b04 {code : List Ins} : isBack code (0, 4) = false := smp_not (u := 0) (v := 4) (by decide) (smp_r0 (by decide))
theorem smp_b12 {code : List Ins} (h : Smp code) : isBack code (1, 2) = false := smp_not (u := 1) (v := 2) (by decide) (smp_r1 h (by decide) (by decide))
theorem smp_b13 {code : List Ins} (h : Smp code) : isBack code (1, 3) = false := smp_not (u := 1) (v := 3) (by decide) (smp_r1 h (by decide) (by decide))
theorem smp_b23 {code : List Ins} (h : Smp code) : isBack code (2, 3) = false := smp_not (u := 2) (v := 3) (by decide) (smp_r2 h (by decide) (by decide) (by decide))
theorem smp_b30 {code : List Ins} (h : Smp code) : isBack code (3, 0) = true := isBack_iff.2 (.zero (.step (smp_r2 h (by decide) (by decide) (by decide)) (by rw [show ((2 : Nat) : Int) = 2 from rfl, smp_n2 h]; simp) (by decide)))
theorem smp_backs {code : List Ins} (h : Smp code) : backsE code = [(3, 0)] := by
  unfold backsE backsIn
  rw [smp_edges h]
  simp [smp_b01, smp_b04, smp_b12 h, smp_b13 h, smp_b23 h, smp_b30 h]
theorem smp_ahead {code : List Ins} (h : Smp code) : aheadE code = [(0, 1), (0, 4), (1, 2), (1, 3), (2, 3)] := by
  unfold aheadE aheadIn
  rw [smp_edges h]
  simp [smp_b01, smp_b04, smp_b12 h, smp_b13 h, smp_b23 h, smp_b30 h]
theorem way_rise {es : List Edge} (h : ∀ e ∈ es, e.1 < e.2) {u v : Int} (hw : Way es u v) : u < v := by
  induction hw with
  | one h1 => exact h _ h1
  | more _ h1 ih => have := h _ h1; simp only at this; omega
theorem smp_no {code : List Ins} (h : Smp code) (v : Int) : ¬ Way (aheadE code) v v := fun hw => by
  rw [smp_ahead h] at hw
  have := way_rise (by decide) hw
  omega
theorem smp_to {code : List Ins} (h : Smp code) : toI (backsE code) 0 = [3] := by rw [smp_backs h]; rfl
theorem smp_heads {code : List Ins} (h : Smp code) : headsL code = [0] := by
  refine sorted_ext _ _ (headsL_sorted code) (by simp) fun x => ?_
  rw [headsL_mem, smp_backs h]
  unfold toI
  by_cases e : x = 0
  · subst e; simp
  · have e' : ¬ (0 : Int) = x := fun e2 => e e2.symm
    simp [e, e']
theorem smp_mem {code : List Ins} (h : Smp code) : memL code 0 = [0, 1, 2, 3] := by
  refine sorted_ext _ _ (memL_sorted code 0) (by simp) fun x => ?_
  rw [memL_mem (headsL_in (code := code) (h := 0) (by rw [smp_heads h]; simp))]
  unfold MemP
  rw [smp_to h, smp_edges h]
  constructor
  · rintro (rfl | hx)
    · simp
    · induction hx with
      | base hb => simp at hb; subst hb; simp
      | @step x y _ hn hy ih =>
        simp only [List.mem_cons, List.not_mem_nil, or_false] at ih hn
        rcases ih with rfl | rfl | rfl | rfl
        · exact absurd rfl hn
        all_goals (revert hy; unfold toI; simp; try omega)
  · intro hx
    have c3 : Cl [0] [3] (toI [(0, 1), (0, 4), (1, 2), (1, 3), (2, 3), (3, 0)]) 3 := .base (by simp)
    simp only [List.mem_cons, List.not_mem_nil, or_false] at hx
    rcases hx with rfl | rfl | rfl | rfl
    · exact .inl rfl
    · exact .inr (.step c3 (by simp) (by decide))
    · exact .inr (.step c3 (by simp) (by decide))
    · exact .inr c3
theorem s3_find {l : List LP} {E a : Int} (h : FindIs s3 l E a) : E = 0 ∧ a = 0 ∧ l.map LP.d = [(0, [0, 1, 2, 3], [3])] ∧ l.map LP.parent = [-1] := by
  have hs : Smp s3 := .inl rfl
  have hc : countsOf s3 0 [0, 1, 2, 3] [3] = (0, 0) := by decide +kernel
  rcases h with ⟨h, _⟩ | ⟨_, h, _⟩ | ⟨_, _, _, k, h, hk, _, hE, hn⟩ | ⟨_, _, _, hE, ha, hd, hp⟩
  · exact absurd h (by decide)
  · rcases h with ⟨_, _, _, h, _⟩ | ⟨h, _⟩
    · exact absurd h (smp_no hs _)
    · cases h
  · rw [smp_heads hs] at hk
    cases k with
    | zero =>
      simp at hk
      subst hk
      rw [smp_mem hs, smp_to hs, hc] at hE
      cases hE; exact absurd rfl hn
    | succ k => simp at hk
  · have hL : loopD s3 0 = (0, [0, 1, 2, 3], [3]) := by unfold loopD; rw [smp_mem hs, smp_to hs]
    rw [smp_heads hs, List.map_singleton, hL] at hd hp
    exact ⟨hE, ha, hd, hp.trans (by decide +kernel)⟩
theorem s1_find {l : List LP} {E a : Int} (h : FindIs s1 l E a) : E = 73 ∧ a = 2 := by
  have hs : Smp s1 := .inr rfl
  have hc : countsOf s1 0 [0, 1, 2, 3] [3] = (73, 2) := by decide +kernel
  rcases h with ⟨h, _⟩ | ⟨_, h, _⟩ | ⟨_, _, _, k, h, hk, _, hE, hn⟩ | ⟨_, _, h, _⟩
  · exact absurd h (by decide)
  · rcases h with ⟨_, _, _, h, _⟩ | ⟨h, _⟩
    · exact absurd h (smp_no hs _)
    · cases h
  · rw [smp_heads hs] at hk
    cases k with
    | zero =>
      simp at hk
      subst hk
      rw [smp_mem hs, smp_to hs, hc] at hE
      cases hE; exact ⟨rfl, rfl⟩
    | succ k => simp at hk
  · have := h 0 (by rw [smp_heads hs]; simp)
    rw [smp_mem hs, smp_to hs, hc] at this
    cases this
end Go.Proofs.YtapjdndcnenadaaDoor
