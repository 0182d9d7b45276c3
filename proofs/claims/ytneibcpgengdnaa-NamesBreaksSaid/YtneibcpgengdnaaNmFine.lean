/- names: what tree.Check says of a statement. -/
import Derived.Test.YtneibcpgengdnaaNmWalk
namespace Go.Proofs.Ytneibcpgengdnaa
open Go.RowKit Go.Maps

mutual
/-- A statement whose form is right, with all that it has. -/
def St.fine : St → Prop
  | .mk k s n a b body els cases => St.own (.mk k s n a b body els cases) = 0 ∧ a.short ∧ b.short ∧ St.fines body ∧ Cs.fines cases ∧ St.fines els
def St.fines : List St → Prop
  | [] => True
  | x :: l => St.fine x ∧ St.fines l
def Cs.fine : Cs → Prop
  | .mk _ body => St.fines body
def Cs.fines : List Cs → Prop
  | [] => True
  | x :: l => Cs.fine x ∧ Cs.fines l
end
theorem St.fine_eq (x : St) : x.fine ↔ x.own = 0 ∧ x.a.short ∧ x.b.short ∧ St.fines x.body ∧ Cs.fines x.cases ∧ St.fines x.els := by cases x; simp only [St.fine, St.a, St.b, St.body, St.cases, St.els]
theorem Cs.fine_eq (x : Cs) : x.fine ↔ St.fines x.body := by cases x; simp only [Cs.fine, Cs.body]
theorem St.fines_at {l : List St} (h : St.fines l) {i : Nat} {x : St} (hx : l[i]? = some x) : x.fine := by
  induction l generalizing i with
  | nil => simp at hx
  | cons y l ih =>
    simp only [St.fines] at h
    cases i with
    | zero => simp at hx; subst hx; exact h.1
    | succ i => exact ih h.2 (by simpa using hx)
theorem Cs.fines_at {l : List Cs} (h : Cs.fines l) {i : Nat} {x : Cs} (hx : l[i]? = some x) : x.fine := by
  induction l generalizing i with
  | nil => simp at hx
  | cons y l ih =>
    simp only [Cs.fines] at h
    cases i with
    | zero => simp at hx; subst hx; exact h.1
    | succ i => exact ih h.2 (by simpa using hx)
theorem after_two {r q : Nat × Int} (h : (after r q).2 = 0) : r.2 = 0 ∧ q.2 = 0 := by
  have h1 := after_zero2 h
  rw [after_ok h1] at h
  exact ⟨h1, h⟩
theorem Ex.short_of_zero {x : Ex} (h : x.zero = true) : x.short := by
  rw [Ex.short_eq]
  unfold Ex.zero at h
  simp only [Bool.and_eq_true, beq_iff_eq] at h
  have : x.args = [] := List.eq_nil_of_length_eq_zero h.2
  rw [this]
  exact ⟨by rw [h.1.2]; omega, trivial⟩
/-- What the form says of the fields that do not count. -/
theorem St.own_formed {x : St} (h : x.own = 0) : x.formed = true ∧ (cntName x.kind = true → nameB x.name = true) ∧ (x.kind = 10 → x.a.kind = 4) := by
  unfold St.own at h
  split at h
  · omega
  rename_i h1
  split at h
  · omega
  rename_i h2
  split at h
  · omega
  split at h
  · omega
  rename_i h4
  refine ⟨by simpa using h1, fun e => by rw [e] at h2; simpa using h2, fun e => ?_⟩
  by_cases h5 : x.a.kind = 4
  · exact h5
  · exact absurd ⟨e, h5⟩ h4
theorem St.formed_parts {x : St} (h : x.formed = true) : knownS x.kind = true ∧ (cntName x.kind = true ∨ x.name.toList = []) ∧ (cntA x.kind = true ∨ x.a.zero = true) ∧ (cntB x.kind = true ∨ x.b.zero = true) ∧ (cntBody x.kind = true ∨ x.body = []) ∧ (cntElse x.kind = true ∨ x.els = []) ∧ (cntCases x.kind = true ∨ x.cases = []) := by
  unfold St.formed at h
  simp only [Bool.and_eq_true, Bool.or_eq_true, decide_eq_true_eq, List.length_eq_zero_iff] at h
  obtain ⟨⟨⟨⟨⟨⟨⟨h1, h2⟩, h3⟩, h4⟩, h5⟩, h6⟩, h7⟩, h8⟩ := h
  exact ⟨h1, h2, h4, h5, h6, h7, h8⟩
theorem St.size_of_own {x : St} (h : x.own = 0) : x.name.size ≤ 16 := by
  obtain ⟨h1, h2, _⟩ := St.own_formed h
  rcases (St.formed_parts h1).2.1 with e | e
  · have h3 := h2 e
    unfold nameB at h3
    simp only [Bool.and_eq_true, decide_eq_true_eq] at h3
    exact h3.1.1.1.1
  · rw [size_of_nil e]; omega
theorem St.front_parts {x : St} {level : Int} (h : x.front level = 0) : x.own = 0 ∧ x.a.short ∧ x.b.short := by
  unfold St.front at h
  split at h
  · omega
  split at h
  · rename_i h1; exact absurd h h1
  rename_i h1
  have ho : x.own = 0 := by simpa using h1
  have hp := St.formed_parts (St.own_formed ho).1
  split at h
  · rename_i h2; exact absurd h h2.2
  rename_i h2
  split at h
  · rename_i h3; exact absurd h h3.2
  rename_i h3
  refine ⟨ho, ?_, ?_⟩
  · rcases hp.2.2.1 with e | e
    · exact Ex.short_of_err _ (level + 1) (by by_cases e2 : x.a.err (level + 1) = 0; exact e2; exact absurd ⟨e, e2⟩ h2)
    · exact Ex.short_of_zero e
  · rcases hp.2.2.2.1 with e | e
    · exact Ex.short_of_err _ (level + 1) (by by_cases e2 : x.b.err (level + 1) = 0; exact e2; exact absurd ⟨e, e2⟩ h3)
    · exact Ex.short_of_zero e
mutual
theorem St.fine_of_chk (x : St) (level : Int) (h : (x.chk level).2 = 0) : x.fine := by
  cases x with
  | mk k s n a b body els cases =>
    simp only [St.chk] at h
    obtain ⟨h1, h2⟩ := after_two h
    obtain ⟨h3, h4⟩ := after_two h2
    obtain ⟨h5, h6⟩ := after_two h4
    obtain ⟨p1, p2, p3⟩ := St.front_parts h1
    exact ⟨p1, p2, p3, St.fines_of_chks body _ h3, Cs.fines_of_chks cases _ h5, St.fines_of_chks els _ h6⟩
theorem St.fines_of_chks (l : List St) (level : Int) (h : (St.chks l level).2 = 0) : St.fines l := by
  cases l with
  | nil => trivial
  | cons x l =>
    simp only [St.chks] at h
    obtain ⟨h1, h2⟩ := after_two h
    exact ⟨St.fine_of_chk x level h1, St.fines_of_chks l level h2⟩
theorem Cs.fine_of_chk (x : Cs) (level : Int) (h : (x.chk level).2 = 0) : x.fine := by
  cases x with
  | mk n body =>
    simp only [Cs.chk] at h
    exact St.fines_of_chks body level h
theorem Cs.fines_of_chks (l : List Cs) (level : Int) (h : (Cs.chks l level).2 = 0) : Cs.fines l := by
  cases l with
  | nil => trivial
  | cons x l =>
    simp only [Cs.chks] at h
    obtain ⟨h1, h2⟩ := after_two h
    exact ⟨Cs.fine_of_chk x level h1, Cs.fines_of_chks l level h2⟩
end
end Go.Proofs.Ytneibcpgengdnaa
