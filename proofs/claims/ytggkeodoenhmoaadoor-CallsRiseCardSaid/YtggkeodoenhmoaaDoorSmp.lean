/- The sample of layer 15: what its functions call, their order, their ring. -/
import Derived.Test.YtggkeodoenhmoaaDoorOrderC
namespace Go.Proofs.YtggkeodoenhmoaaDoor
open Go.RowKit

def k0 : List Ins := [⟨19, 0, 0, 0, 2⟩, ⟨19, 0, 0, 0, 1⟩, ⟨0, 0, 0, 0, 0⟩]
def k1 : List Ins := [⟨19, 0, 0, 0, 2⟩, ⟨0, 0, 0, 0, 0⟩]
def k2 : List Ins := [⟨0, 0, 0, 0, 0⟩]
def k3 : List Ins := [⟨0, 0, 0, 0, 0⟩, ⟨19, 0, 0, 0, 2⟩]
def k4 : List Ins := [⟨19, 0, 0, 0, 1⟩, ⟨0, 0, 0, 0, 0⟩]

theorem k0_reach : reachL k0 (-1) = [true, true, true] := by
  have h0 : Rch k0 (-1) 0 := Rch.start (by decide)
  have h1 : Rch k0 (-1) 1 := Rch.step h0 (by decide +kernel) (by decide)
  have h2 : Rch k0 (-1) 2 := Rch.step h1 (by decide +kernel) (by decide)
  symm
  refine reachL_of (by decide) (by decide) ?_ (fun _ => by decide) ?_
  · intro v hv _
    match v, hv with
    | 0, _ => exact h0
    | 1, _ => exact h1
    | 2, _ => exact h2
  · intro u v _ hv _ _ _
    match v, hv with
    | 0, _ => rfl
    | 1, _ => rfl
    | 2, _ => rfl
theorem k1_reach : reachL k1 (-1) = [true, true] := by
  have h0 : Rch k1 (-1) 0 := Rch.start (by decide)
  have h1 : Rch k1 (-1) 1 := Rch.step h0 (by decide +kernel) (by decide)
  symm
  refine reachL_of (by decide) (by decide) ?_ (fun _ => by decide) ?_
  · intro v hv _
    match v, hv with
    | 0, _ => exact h0
    | 1, _ => exact h1
  · intro u v _ hv _ _ _
    match v, hv with
    | 0, _ => rfl
    | 1, _ => rfl
theorem k4_reach : reachL k4 (-1) = [true, true] := by
  have h0 : Rch k4 (-1) 0 := Rch.start (by decide)
  have h1 : Rch k4 (-1) 1 := Rch.step h0 (by decide +kernel) (by decide)
  symm
  refine reachL_of (by decide) (by decide) ?_ (fun _ => by decide) ?_
  · intro v hv _
    match v, hv with
    | 0, _ => exact h0
    | 1, _ => exact h1
  · intro u v _ hv _ _ _
    match v, hv with
    | 0, _ => rfl
    | 1, _ => rfl
theorem k2_reach : reachL k2 (-1) = [true] := by
  symm
  refine reachL_of (by decide) (by decide) ?_ (fun _ => by decide) ?_
  · intro v hv _
    match v, hv with
    | 0, _ => exact Rch.start (by decide)
  · intro u v _ hv _ _ _
    match v, hv with
    | 0, _ => rfl
theorem k3_reach : reachL k3 (-1) = [true, false] := by
  have hc : ∀ u : Nat, u < 2 → ∀ v : Nat, v < 2 → [true, false].getD u false = true → (v : Int) ∈ nextL k3 (u : Int) → [true, false].getD v false = true := by decide +kernel
  symm
  refine reachL_of (by decide) (by decide) ?_ (fun _ => by decide) (fun u v hu hv h1 h2 _ => hc u hu v hv h1 h2)
  intro v hv h
  match v, hv with
  | 0, _ => exact Rch.start (by decide)
  | 1, _ => simp at h
theorem k0_calls : callsL k0 4 = [(0, 2), (1, 1)] := by unfold callsL; rw [k0_reach]; decide +kernel
theorem k1_calls : callsL k1 4 = [(0, 2)] := by unfold callsL; rw [k1_reach]; decide +kernel
theorem k2_calls : callsL k2 4 = [] := by unfold callsL; rw [k2_reach]; decide +kernel
theorem k3_calls : callsL k3 4 = [] := by unfold callsL; rw [k3_reach]; decide +kernel
theorem k4_calls : callsL k4 4 = [(0, 1)] := by unfold callsL; rw [k4_reach]; decide +kernel
theorem ofL_by {code : List Ins} {n : Nat} {C : List Pr} {l : List Int} (hC : callsL code n = C) (hl : l.Pairwise (· < ·)) (h : ∀ x, x ∈ l ↔ x ∈ C.map (·.2)) : ofL code n = l :=
  sorted_ext _ _ (ofL_sorted _ _) hl (fun x => by rw [ofL_mem, h]; unfold targL; rw [hC])
theorem k0_of : ofL k0 4 = [1, 2] := ofL_by k0_calls (by decide) (fun x => by simp [or_comm])
theorem k1_of : ofL k1 4 = [2] := ofL_by k1_calls (by decide) (fun x => by simp)
theorem k2_of : ofL k2 4 = [] := ofL_by k2_calls (by decide) (fun x => by simp)
theorem k3_of : ofL k3 4 = [] := ofL_by k3_calls (by decide) (fun x => by simp)
theorem k4_of : ofL k4 4 = [1] := ofL_by k4_calls (by decide) (fun x => by simp)

/-- Four functions of which the third has code k. -/
def smpK (k : List Ins) (n2 g0 g1 g2 g3 : Nat) : List FR := [⟨⟨#[]⟩, .slice none 0 0, 0, 0, .slice (some ⟨g0, 0, none⟩) 3 3, [], k0⟩, ⟨⟨#[]⟩, .slice none 0 0, 0, 0, .slice (some ⟨g1, 0, none⟩) 2 2, [], k1⟩,
  ⟨⟨#[]⟩, .slice none 0 0, 0, 0, .slice (some ⟨g2, 0, none⟩) n2 n2, [], k⟩, ⟨⟨#[]⟩, .slice none 0 0, 0, 0, .slice (some ⟨g3, 0, none⟩) 2 2, [], k3⟩]
theorem smp_of0 (k : List Ins) (n2 g0 g1 g2 g3 : Nat) : ofFn (smpK k n2 g0 g1 g2 g3) 0 = [1, 2] := (ofFn_at (fn := 0) rfl).trans k0_of
theorem smp_of1 (k : List Ins) (n2 g0 g1 g2 g3 : Nat) : ofFn (smpK k n2 g0 g1 g2 g3) 1 = [2] := (ofFn_at (fn := 1) rfl).trans k1_of
theorem smp_of2 (k : List Ins) (n2 g0 g1 g2 g3 : Nat) : ofFn (smpK k n2 g0 g1 g2 g3) 2 = ofL k 4 := (ofFn_at (F := smpK k n2 g0 g1 g2 g3) (fn := 2) rfl).trans rfl
theorem smp_of3 (k : List Ins) (n2 g0 g1 g2 g3 : Nat) : ofFn (smpK k n2 g0 g1 g2 g3) 3 = [] := (ofFn_at (fn := 3) rfl).trans k3_of
theorem smp_edge {k : List Ins} {n2 g0 g1 g2 g3 : Nat} {x y : Int} (h : y ∈ ofFn (smpK k n2 g0 g1 g2 g3) x) : (x = 0 ∧ (y = 1 ∨ y = 2)) ∨ (x = 1 ∧ y = 2) ∨ (x = 2 ∧ y ∈ ofL k 4) := by
  have hx : x = 0 ∨ x = 1 ∨ x = 2 ∨ x = 3 ∨ ofFn (smpK k n2 g0 g1 g2 g3) x = [] := by
    by_cases h0 : 0 ≤ x ∧ x < 4
    · omega
    · right; right; right; right
      unfold ofFn
      split
      · rw [List.getElem?_eq_none (by simp [smpK]; omega)]
      · rfl
  rcases hx with rfl | rfl | rfl | rfl | e
  · rw [smp_of0] at h; simp at h; exact .inl ⟨rfl, h⟩
  · rw [smp_of1] at h; simp at h; exact .inr (.inl ⟨rfl, h⟩)
  · rw [smp_of2] at h; exact .inr (.inr ⟨rfl, h⟩)
  · rw [smp_of3] at h; simp at h
  · rw [e] at h; simp at h
theorem smp_order (g0 g1 g2 g3 : Nat) : OrderIs (smpK k2 1 g0 g1 g2 g3) [2, 1, 0, 3] 0 0 0 := by
  have hed : ∀ {x y : Int}, y ∈ ofFn (smpK k2 1 g0 g1 g2 g3) x → x < y := fun h => by
    rcases smp_edge h with ⟨rfl, rfl | rfl⟩ | ⟨rfl, rfl⟩ | ⟨rfl, h2⟩
    · decide
    · decide
    · decide
    · rw [k2_of] at h2; simp at h2
  have hlt : ∀ {x y : Int}, Lead (smpK k2 1 g0 g1 g2 g3) x y → x < y := fun h => by
    induction h with
    | one h => exact hed h
    | more _ h ih => have := hed h; omega
  have o2 : ofFn (smpK k2 1 g0 g1 g2 g3) 2 = [] := (smp_of2 _ _ _ _ _ _).trans k2_of
  refine .inr (.inr ⟨by simp [smpK], ?_, rfl, fun x h => by have := hlt h; omega, rfl, rfl, rfl⟩)
  have n0 : NextIs (smpK k2 1 g0 g1 g2 g3) [] 2 := ⟨by decide, by simp [smpK], by simp, by rw [o2]; simp, fun y h0 h1 _ => by
    have : y = 0 ∨ y = 1 := by omega
    rcases this with rfl | rfl
    · exact ⟨1, by rw [smp_of0]; simp, by simp⟩
    · exact ⟨2, by rw [smp_of1]; simp, by simp⟩⟩
  have n1 : NextIs (smpK k2 1 g0 g1 g2 g3) [2] 1 := ⟨by decide, by simp [smpK], by simp, by rw [smp_of1]; simp, fun y h0 h1 _ => by
    obtain rfl : y = 0 := by omega
    exact ⟨1, by rw [smp_of0]; simp, by simp⟩⟩
  have n2 : NextIs (smpK k2 1 g0 g1 g2 g3) [2, 1] 0 := ⟨by decide, by simp [smpK], by simp, by rw [smp_of0]; simp, fun y h0 h1 _ => by omega⟩
  have n3 : NextIs (smpK k2 1 g0 g1 g2 g3) [2, 1, 0] 3 := ⟨by decide, by simp [smpK], by simp, by rw [smp_of3]; simp, fun y h0 h1 hy => by
    have : y = 0 ∨ y = 1 ∨ y = 2 := by omega
    rcases this with rfl | rfl | rfl <;> simp at hy⟩
  exact (((Ord.nil _).snoc n0).snoc n1 |>.snoc n2).snoc n3
theorem smp_ring (g0 g1 g2 g3 : Nat) : OrderIs (smpK k4 2 g0 g1 g2 g3) [] 75 1 0 := by
  have e12 : (2 : Int) ∈ ofFn (smpK k4 2 g0 g1 g2 g3) 1 := by rw [smp_of1]; simp
  have e21 : (1 : Int) ∈ ofFn (smpK k4 2 g0 g1 g2 g3) 2 := by rw [smp_of2, k4_of]; simp
  have hno : ∀ {x y : Int}, Lead (smpK k4 2 g0 g1 g2 g3) x y → y ≠ 0 := fun h => by
    have : ∀ {x y : Int}, y ∈ ofFn (smpK k4 2 g0 g1 g2 g3) x → y ≠ 0 := fun h => by
      rcases smp_edge h with ⟨rfl, rfl | rfl⟩ | ⟨rfl, rfl⟩ | ⟨rfl, h2⟩
      · decide
      · decide
      · decide
      · rw [k4_of] at h2; simp at h2; subst h2; decide
    cases h with
    | one h => exact this h
    | more _ h => exact this h
  have hc : callsFn (smpK k4 2 g0 g1 g2 g3) (1 : Nat) = [(0, 2)] := (callsFn_at (fn := 1) rfl).trans k1_calls
  refine .inr (.inl ⟨by simp [smpK], rfl, rfl, 1, 0, (0, 2), rfl, by simp [smpK], ⟨(Lead.one e12).more e21, ⟨(0, 2), by rw [hc]; rfl, .inl (.one e21)⟩, fun j p hj => by omega⟩, by rw [hc]; rfl, rfl, fun i hi => ?_⟩)
  obtain rfl : i = 0 := by omega
  exact fun h => hno h rfl
theorem order_any (vt vf : Value) (F : List FR) (w : World) (hF : FuncsIn w vf F) (hw : WordsIn w) : Calls Tryd.prog 12 #[modV vt vf] w (RetOrder F w) := by
  by_cases h : F.length ≤ 32
  · exact order_in vt vf F w hF hw h
  · exact order_many vt vf F w hF (by omega)
end Go.Proofs.YtggkeodoenhmoaaDoor
