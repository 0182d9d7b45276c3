/- names: a walker in memory; names that are short. -/
import Derived.Test.YtneibcpgengdnaaNmForget
namespace Go.Proofs.Ytneibcpgengdnaa
open Go.RowKit Go.Maps

/-- A walker in block c. -/
structure WAt (w : World) (c bk bf bc : Nat) (ov : Value) (K : Known) (G : List ByteArray) (C : List Int) (n loops : Int) : Prop where
  sc : ScAt w c bk ov K
  c2 : w.cell? ⟨c, 2, none⟩ = some (.map (some bf))
  c3 : w.cell? ⟨c, 3, none⟩ = some (.map (some bc))
  c4 : w.cell? ⟨c, 4, none⟩ = some (.int .i64 n)
  c5 : w.cell? ⟨c, 5, none⟩ = some (.int .i64 loops)
  f4 : w.frozen? ⟨c, 4, none⟩ = false
  f5 : w.frozen? ⟨c, 5, none⟩ = false
  funcs : ∃ S F, SMap w bf S F ∧ (∀ x, x ∈ S ↔ x ∈ G) ∧ ∀ (i : Nat) x, G[i]? = some x → F x = (i : Int)
  calls : CMap w bc C
  few : (∀ i ∈ C, 0 ≤ i ∧ i < (G.length : Int)) ∧ C.length ≤ 32 ∧ G.length ≤ 32
  lts : bf < bk ∧ bk < bc ∧ bc < c
mutual
/-- All names are short. -/
def Ex.short : Ex → Prop
  | .mk _ _ s l => s.size ≤ 16 ∧ Ex.shorts l
def Ex.shorts : List Ex → Prop
  | [] => True
  | x :: l => Ex.short x ∧ Ex.shorts l
end
theorem Ex.short_eq (x : Ex) : x.short ↔ x.name.size ≤ 16 ∧ Ex.shorts x.args := by cases x; simp only [Ex.short, Ex.name, Ex.args]
theorem Ex.shorts_at {l : List Ex} (h : Ex.shorts l) {i : Nat} {x : Ex} (hx : l[i]? = some x) : x.short := by
  induction l generalizing i with
  | nil => simp at hx
  | cons y l ih =>
    simp only [Ex.shorts] at h
    cases i with
    | zero => simp at hx; subst hx; exact h.1
    | succ i => exact ih h.2 (by simpa using hx)
theorem size_of_nil {s : ByteArray} (h : s.toList = []) : s.size = 0 := by
  have h1 : s.size = s.toList.length := by rw [ByteArray.toList_eq s, Array.length_toList]; rfl
  rw [h1, h]; rfl
theorem Ex.size_of_own {x : Ex} {level : Int} (h : x.own level = 0) : x.name.size ≤ 16 := by
  unfold Ex.own at h
  split at h
  · omega
  split at h
  · omega
  rename_i hb
  split at h
  · omega
  rename_i hn
  cases hk : namedB x.kind
  · unfold Ex.badForm at hb
    rw [hk] at hb
    have : x.name.toList = [] := by
      by_cases e : x.name.toList = []
      · exact e
      · exfalso; apply hb; simp [e]
    rw [size_of_nil this]; omega
  · rw [hk] at hn
    have h2 : nameB x.name = true := by simpa using hn
    unfold nameB at h2
    simp only [Bool.and_eq_true, decide_eq_true_eq] at h2
    exact h2.1.1.1.1
mutual
theorem Ex.short_of_err (x : Ex) (level : Int) (h : x.err level = 0) : x.short := by
  cases x with
  | mk k n s l =>
    rw [Ex.err_eq] at h
    by_cases ho : Ex.own (.mk k n s l) level = 0
    · rw [if_neg (by rw [ho]; decide)] at h
      exact ⟨Ex.size_of_own ho, Ex.shorts_of_err l (level + 1) h⟩
    · rw [if_pos ho] at h; exact absurd h ho
theorem Ex.shorts_of_err (l : List Ex) (level : Int) (h : Ex.errs l level = 0) : Ex.shorts l := by
  cases l with
  | nil => trivial
  | cons x l =>
    simp only [Ex.errs] at h
    by_cases ho : x.err level = 0
    · rw [if_neg (by rw [ho]; decide)] at h
      exact ⟨Ex.short_of_err x level ho, Ex.shorts_of_err l level h⟩
    · rw [if_pos ho] at h; exact absurd h ho
end
end Go.Proofs.Ytneibcpgengdnaa
