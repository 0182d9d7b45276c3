/- How many parts a program's tree has. -/
import Derived.Test.YtneibcpgengdnaaTr
namespace Go.Proofs.Ytneibcpgengdnaa
open Go.RowKit

mutual
def Ex.total : Ex → Nat
  | .mk _ _ _ l => 1 + Ex.totals l
def Ex.totals : List Ex → Nat
  | [] => 0
  | x :: l => Ex.total x + Ex.totals l
end
/-- Whether all of an expression is zero. -/
def Ex.zero (x : Ex) : Bool := x.kind == 0 && x.n == 0 && x.name.size == 0 && x.args.length == 0
def Ex.part (x : Ex) : Nat := if x.zero then 0 else x.total
mutual
def St.total : St → Nat
  | .mk _ _ _ a b body els cases => 1 + a.part + b.part + St.totals body + Cs.totals cases + St.totals els
def St.totals : List St → Nat
  | [] => 0
  | x :: l => St.total x + St.totals l
def Cs.total : Cs → Nat
  | .mk _ body => 1 + St.totals body
def Cs.totals : List Cs → Nat
  | [] => 0
  | x :: l => Cs.total x + Cs.totals l
end
theorem Ex.total_eq (x : Ex) : x.total = 1 + Ex.totals x.args := by cases x; rfl
theorem St.total_eq (x : St) : x.total = 1 + x.a.part + x.b.part + St.totals x.body + Cs.totals x.cases + St.totals x.els := by cases x; rfl
theorem Cs.total_eq (x : Cs) : x.total = 1 + St.totals x.body := by cases x; rfl
theorem Ex.totals_snoc (l : List Ex) (x : Ex) : Ex.totals (l ++ [x]) = Ex.totals l + x.total := by
  induction l with
  | nil => simp [Ex.totals]
  | cons y l ih => simp only [List.cons_append, Ex.totals, ih]; omega
theorem St.totals_snoc (l : List St) (x : St) : St.totals (l ++ [x]) = St.totals l + x.total := by
  induction l with
  | nil => simp [St.totals]
  | cons y l ih => simp only [List.cons_append, St.totals, ih]; omega
theorem Cs.totals_snoc (l : List Cs) (x : Cs) : Cs.totals (l ++ [x]) = Cs.totals l + x.total := by
  induction l with
  | nil => simp [Cs.totals]
  | cons y l ih => simp only [List.cons_append, Cs.totals, ih]; omega
theorem take_next {α : Type} {l : List α} {i : Nat} {x : α} (h : l[i]? = some x) : l.take (i + 1) = l.take i ++ [x] := by rw [List.take_add_one, h]; rfl
theorem Ex.totals_take {l : List Ex} {i : Nat} {x : Ex} (h : l[i]? = some x) : Ex.totals (l.take (i + 1)) = Ex.totals (l.take i) + x.total := by rw [take_next h, Ex.totals_snoc]
theorem St.totals_take {l : List St} {i : Nat} {x : St} (h : l[i]? = some x) : St.totals (l.take (i + 1)) = St.totals (l.take i) + x.total := by rw [take_next h, St.totals_snoc]
theorem Cs.totals_take {l : List Cs} {i : Nat} {x : Cs} (h : l[i]? = some x) : Cs.totals (l.take (i + 1)) = Cs.totals (l.take i) + x.total := by rw [take_next h, Cs.totals_snoc]
theorem Ex.totals_le {l : List Ex} (i : Nat) : Ex.totals (l.take i) ≤ Ex.totals l := by
  induction l generalizing i with
  | nil => simp
  | cons y l ih => cases i with
    | zero => simp [Ex.totals]
    | succ i => simp only [List.take_succ_cons, Ex.totals]; have := ih i; omega
theorem St.totals_le {l : List St} (i : Nat) : St.totals (l.take i) ≤ St.totals l := by
  induction l generalizing i with
  | nil => simp
  | cons y l ih => cases i with
    | zero => simp [St.totals]
    | succ i => simp only [List.take_succ_cons, St.totals]; have := ih i; omega
theorem Cs.totals_le {l : List Cs} (i : Nat) : Cs.totals (l.take i) ≤ Cs.totals l := by
  induction l generalizing i with
  | nil => simp
  | cons y l ih => cases i with
    | zero => simp [Cs.totals]
    | succ i => simp only [List.take_succ_cons, Cs.totals]; have := ih i; omega
/-- Up to one more than may be. -/
def upto (n : Nat) : Nat := min n 4097
theorem upto_add (a b : Nat) : upto (upto a + b) = upto (a + b) := by unfold upto; omega
theorem upto_full {a b : Nat} (h : 4096 < upto a) : upto (a + b) = upto a := by unfold upto at *; omega
theorem upto_of {a : Nat} (h : a ≤ 4097) : upto a = a := by unfold upto; omega
theorem upto_stop {k s t : Nat} (h : s ≤ t) (hf : 4096 < upto (k + s)) : upto (k + t) = upto (k + s) := by unfold upto at *; omega
theorem upto_one {k : Nat} (hf : ¬ 4096 < upto k) : upto k + 1 ≤ 4097 := by unfold upto at *; omega
theorem upto_le (a : Nat) : upto a ≤ 4097 := by unfold upto; omega
end Go.Proofs.Ytneibcpgengdnaa
