/- Loops: which edges go back, who leads where: the plain side. -/
import Derived.Test.YtapjdndcnenadaaDoorTreeAny
import Derived.Test.YtapjdndcnenadaaDoorGroup
namespace Go.Proofs.YtapjdndcnenadaaDoor
open Go.RowKit

/-- Those from which one comes to y, by a list of edges; and where one comes from y. -/
def toI (es : List Edge) (y : Int) : List Int := (es.filter fun e => decide (e.2 = y)).map (·.1)
def outI (es : List Edge) (y : Int) : List Int := (es.filter fun e => decide (e.1 = y)).map (·.2)
theorem toI_snoc (es : List Edge) (e : Edge) (y : Int) : toI (es ++ [e]) y = if y = e.2 then toI es y ++ [e.1] else toI es y := by
  unfold toI
  rw [List.filter_append, List.map_append]
  by_cases h : y = e.2
  · subst h; simp
  · have h' : ¬ e.2 = y := fun h2 => h h2.symm
    rw [if_neg h]; simp [h']
theorem outI_snoc (es : List Edge) (e : Edge) (y : Int) : outI (es ++ [e]) y = if y = e.1 then outI es y ++ [e.2] else outI es y := by
  unfold outI
  rw [List.filter_append, List.map_append]
  by_cases h : y = e.1
  · subst h; simp
  · have h' : ¬ e.1 = y := fun h2 => h h2.symm
    rw [if_neg h]; simp [h']
theorem toI_len (es : List Edge) (y : Int) : (toI es y).length ≤ es.length := by unfold toI; rw [List.length_map]; exact List.length_filter_le _ _
theorem outI_len (es : List Edge) (y : Int) : (outI es y).length ≤ es.length := by unfold outI; rw [List.length_map]; exact List.length_filter_le _ _
theorem toI_mem {es : List Edge} {u v : Int} : u ∈ toI es v ↔ (u, v) ∈ es := by
  unfold toI
  simp only [List.mem_map, List.mem_filter, decide_eq_true_eq]
  constructor
  · rintro ⟨⟨a, b⟩, ⟨h1, rfl⟩, rfl⟩; exact h1
  · intro h; exact ⟨_, ⟨h, rfl⟩, rfl⟩
theorem outI_mem {es : List Edge} {u v : Int} : v ∈ outI es u ↔ (u, v) ∈ es := by
  unfold outI
  simp only [List.mem_map, List.mem_filter, decide_eq_true_eq]
  constructor
  · rintro ⟨⟨a, b⟩, ⟨h1, rfl⟩, rfl⟩; exact h1
  · intro h; exact ⟨_, ⟨h, rfl⟩, rfl⟩

open Classical in
/-- An edge goes back, if its end dominates its beginning. -/
noncomputable def isBack (code : List Ins) (e : Edge) : Bool := decide (Dom code e.2.toNat e.1.toNat)
noncomputable def backsIn (code : List Ins) (es : List Edge) : List Edge := es.filter (isBack code)
noncomputable def aheadIn (code : List Ins) (es : List Edge) : List Edge := es.filter fun e => !isBack code e
noncomputable def backsE (code : List Ins) : List Edge := backsIn code (edgesL code)
noncomputable def aheadE (code : List Ins) : List Edge := aheadIn code (edgesL code)
theorem isBack_iff {code : List Ins} {u v : Nat} : isBack code ((u : Int), (v : Int)) = true ↔ Dom code v u := by unfold isBack; simp

/-- What the three maps of a graph hold. -/
noncomputable def gf (code : List Ins) (es : List Edge) (i : Nat) (y : Int) : List Int := if i = 0 then toI es y else if i = 1 then outI (aheadIn code es) y else if i = 2 then toI (backsIn code es) y else []
theorem gf_len (code : List Ins) (es : List Edge) (i : Nat) (y : Int) : (gf code es i y).length ≤ es.length := by
  unfold gf
  split
  · exact toI_len _ _
  · split
    · exact Nat.le_trans (outI_len _ _) (List.length_filter_le _ _)
    · split
      · exact Nat.le_trans (toI_len _ _) (List.length_filter_le _ _)
      · simp
/-- A round: first the one that leads there is told; then the edge goes back, or ahead. -/
noncomputable def gf1 (code : List Ins) (es : List Edge) (e : Edge) (i : Nat) (y : Int) : List Int := if i = 0 ∧ y = e.2 then gf code es 0 e.2 ++ [e.1] else gf code es i y
theorem gf_back {code : List Ins} {es : List Edge} {e : Edge} (h : isBack code e = true) : (fun i y => if i = 2 ∧ y = e.2 then gf1 code es e 2 e.2 ++ [e.1] else gf1 code es e i y) = gf code (es ++ [e]) := by
  funext i y
  have hb : backsIn code (es ++ [e]) = backsIn code es ++ [e] := by unfold backsIn; rw [List.filter_append]; simp [h]
  have ha : aheadIn code (es ++ [e]) = aheadIn code es := by unfold aheadIn; rw [List.filter_append]; simp [h]
  unfold gf1 gf
  rw [hb, ha, toI_snoc, toI_snoc]
  by_cases h0 : i = 0
  · subst h0; by_cases hy : y = e.2 <;> simp [hy]
  · by_cases h2 : i = 2
    · subst h2; by_cases hy : y = e.2 <;> simp [hy]
    · by_cases h1 : i = 1
      · subst h1; simp
      · simp [h0, h1, h2]
theorem gf_ahead {code : List Ins} {es : List Edge} {e : Edge} (h : isBack code e = false) : (fun i y => if i = 1 ∧ y = e.1 then gf1 code es e 1 e.1 ++ [e.2] else gf1 code es e i y) = gf code (es ++ [e]) := by
  funext i y
  have hb : backsIn code (es ++ [e]) = backsIn code es := by unfold backsIn; rw [List.filter_append]; simp [h]
  have ha : aheadIn code (es ++ [e]) = aheadIn code es ++ [e] := by unfold aheadIn; rw [List.filter_append]; simp [h]
  unfold gf1 gf
  rw [hb, ha, toI_snoc, outI_snoc]
  by_cases h0 : i = 0
  · subst h0; by_cases hy : y = e.2 <;> simp [hy]
  · by_cases h1 : i = 1
    · subst h1; by_cases hy : y = e.1 <;> simp [hy]
    · simp [h0, h1]
end Go.Proofs.YtapjdndcnenadaaDoor
