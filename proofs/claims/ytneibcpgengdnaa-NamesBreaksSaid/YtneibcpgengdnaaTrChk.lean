/- What is wrong first with statements, and how many are met up to there. -/
import Derived.Test.YtneibcpgengdnaaTrRExpr
namespace Go.Proofs.Ytneibcpgengdnaa
open Go.RowKit

def cntName (k : Int) : Bool := decide (k = 1 ∨ k = 2 ∨ k = 3 ∨ k = 4 ∨ k = 7)
def cntN (k : Int) : Bool := decide (k = 2)
def cntA (k : Int) : Bool := decide (k = 1 ∨ k = 3 ∨ k = 4 ∨ k = 5 ∨ k = 6 ∨ k = 7 ∨ k = 9 ∨ k = 10)
def cntB (k : Int) : Bool := decide (k = 4 ∨ k = 7)
def cntBody (k : Int) : Bool := decide (k = 5 ∨ k = 7)
def cntElse (k : Int) : Bool := decide (k = 5 ∨ k = 6)
def cntCases (k : Int) : Bool := decide (k = 6)
def knownS (k : Int) : Bool := decide (1 ≤ k ∧ k ≤ 10)
def leastI : Int := -9223372036854775808
/-- Is a statement's form right, by its own fields? -/
def St.formed (x : St) : Bool := knownS x.kind && (cntName x.kind || decide (x.name.toList = [])) && (cntN x.kind || decide (x.n = 0)) && (cntA x.kind || x.a.zero) && (cntB x.kind || x.b.zero) && (cntBody x.kind || decide (x.body.length = 0)) && (cntElse x.kind || decide (x.els.length = 0)) && (cntCases x.kind || decide (x.cases.length = 0))
def lowestB (l : List Cs) : Bool := l.any fun y => y.n == leastI
def St.own (x : St) : Int := if x.formed = false then 5 else if (cntName x.kind && !nameB x.name) = true then 8 else if (decide (x.n < 0) || lowestB x.cases) = true then 1 else if x.kind = 10 ∧ x.a.kind ≠ 4 then 5 else 0
/-- What is wrong with a statement ahead of its bodies. -/
def St.front (x : St) (level : Int) : Int :=
  if 32 < level then 20 else if x.own ≠ 0 then x.own else
  if cntA x.kind = true ∧ x.a.err (level + 1) ≠ 0 then x.a.err (level + 1) else
  if cntB x.kind = true ∧ x.b.err (level + 1) ≠ 0 then x.b.err (level + 1) else 0
/-- One after the other, up to the first that is wrong. -/
def after (r q : Nat × Int) : Nat × Int := if r.2 ≠ 0 then r else (r.1 + q.1, q.2)
mutual
def St.chk : St → Int → Nat × Int
  | .mk k s n a b body els cases, level => after (1, St.front (.mk k s n a b body els cases) level) (after (St.chks body (level + 1)) (after (Cs.chks cases (level + 1)) (St.chks els (level + 1))))
def St.chks : List St → Int → Nat × Int
  | [], _ => (0, 0)
  | x :: l, level => after (St.chk x level) (St.chks l level)
def Cs.chk : Cs → Int → Nat × Int
  | .mk _ body, level => St.chks body level
def Cs.chks : List Cs → Int → Nat × Int
  | [], _ => (0, 0)
  | x :: l, level => after (Cs.chk x level) (Cs.chks l level)
end
theorem St.chk_eq (x : St) (level : Int) : x.chk level = after (1, x.front level) (after (St.chks x.body (level + 1)) (after (Cs.chks x.cases (level + 1)) (St.chks x.els (level + 1)))) := by cases x; simp only [St.chk, St.body, St.cases, St.els]
theorem Cs.chk_eq (x : Cs) (level : Int) : x.chk level = St.chks x.body level := by cases x; simp only [Cs.chk, Cs.body]
theorem after_assoc (r q p : Nat × Int) : after (after r q) p = after r (after q p) := by
  unfold after
  by_cases h : r.2 = 0 <;> by_cases h2 : q.2 = 0 <;> simp [h, h2, Nat.add_assoc]
theorem after_zero (r : Nat × Int) : after r (0, 0) = r := by
  unfold after
  by_cases h : r.2 = 0
  · simp [h]; ext <;> simp [h]
  · simp [h]
theorem zero_after (r : Nat × Int) : after (0, 0) r = r := by unfold after; simp
theorem St.chks_snoc (l : List St) (x : St) (level : Int) : St.chks (l ++ [x]) level = after (St.chks l level) (x.chk level) := by
  induction l with
  | nil => simp only [List.nil_append, St.chks, after_zero, zero_after]
  | cons y l ih => simp only [List.cons_append, St.chks, ih, after_assoc]
theorem Cs.chks_snoc (l : List Cs) (x : Cs) (level : Int) : Cs.chks (l ++ [x]) level = after (Cs.chks l level) (x.chk level) := by
  induction l with
  | nil => simp only [List.nil_append, Cs.chks, after_zero, zero_after]
  | cons y l ih => simp only [List.cons_append, Cs.chks, ih, after_assoc]
theorem St.chks_append (l m : List St) (level : Int) : St.chks (l ++ m) level = after (St.chks l level) (St.chks m level) := by
  induction l with
  | nil => simp only [List.nil_append, St.chks, zero_after]
  | cons y l ih => simp only [List.cons_append, St.chks, ih, after_assoc]
theorem Cs.chks_append (l m : List Cs) (level : Int) : Cs.chks (l ++ m) level = after (Cs.chks l level) (Cs.chks m level) := by
  induction l with
  | nil => simp only [List.nil_append, Cs.chks, zero_after]
  | cons y l ih => simp only [List.cons_append, Cs.chks, ih, after_assoc]
/-- Once something is wrong, the rest does not matter. -/
theorem St.chks_stop {l : List St} {level : Int} (i : Nat) (h : (St.chks (l.take i) level).2 ≠ 0) : St.chks l level = St.chks (l.take i) level := by
  conv => lhs; rw [← List.take_append_drop i l]
  rw [St.chks_append]
  exact if_pos h
theorem Cs.chks_stop {l : List Cs} {level : Int} (i : Nat) (h : (Cs.chks (l.take i) level).2 ≠ 0) : Cs.chks l level = Cs.chks (l.take i) level := by
  conv => lhs; rw [← List.take_append_drop i l]
  rw [Cs.chks_append]
  exact if_pos h
theorem St.chks_take {l : List St} {i : Nat} {x : St} {level : Int} (h : l[i]? = some x) : St.chks (l.take (i + 1)) level = after (St.chks (l.take i) level) (x.chk level) := by rw [take_next h, St.chks_snoc]
theorem Cs.chks_take {l : List Cs} {i : Nat} {x : Cs} {level : Int} (h : l[i]? = some x) : Cs.chks (l.take (i + 1)) level = after (Cs.chks (l.take i) level) (x.chk level) := by rw [take_next h, Cs.chks_snoc]
end Go.Proofs.Ytneibcpgengdnaa
