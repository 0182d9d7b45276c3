/- gen: as many breaks wait as there are statements, at most. -/
import Derived.Test.YtgobcldecokppaaDoorGnFork
namespace Go.Proofs.YtgobcldecokppaaDoor
open Go.RowKit Go.Maps

mutual
theorem St.gn_brk (F : ByteArray → Int) : ∀ (x : St) (V : GEnv) (wd : Int) (p : Nat) (n : Int), (St.gn F x V wd p n).brk.length ≤ x.total
  | .mk k s num a b body els cases, V, wd, p, n => by
    rw [St.total_eq]
    simp only [St.gn, gnSt, St.body, St.els, St.cases, St.a, St.b]
    have h1 := fun V wd p n ns => St.gns_brk F body V wd p n ns
    have h2 := fun V wd p n ns => St.gns_brk F els V wd p n ns
    have h3 := fun V wd p n => Cs.gns_brk F cases V wd p n
    split
    · simp
    split
    · simp; omega
    split
    · simp
    split
    · simp
    split
    · simp only [List.length_append]
      have e1 := h1 V wd (p + (a.gn V F p n).length + 1) n []
      exact Nat.le_trans (Nat.add_le_add e1 (h2 _ _ _ _ _)) (by omega)
    split
    · simp only [List.length_append]
      exact Nat.le_trans (Nat.add_le_add (h3 _ _ _ _) (h2 _ _ _ _ _)) (by omega)
    split
    · simp
    · simp
theorem St.gns_brk (F : ByteArray → Int) : ∀ (l : List St) (V : GEnv) (wd : Int) (p : Nat) (n : Int) (ns : List ByteArray), (St.gns F l V wd p n ns).brk.length ≤ St.totals l
  | [], _, _, _, _, _ => by simp [St.gns]
  | x :: l, V, wd, p, n, ns => by
    simp only [St.gns, St.totals]
    split
    · exact Nat.le_trans (St.gns_brk F l _ _ _ _ _) (by omega)
    split
    · exact Nat.le_trans (St.gns_brk F l _ _ _ _ _) (by omega)
    · simp only [List.length_append]
      exact Nat.add_le_add (St.gn_brk F x _ _ _ _) (St.gns_brk F l _ _ _ _ _)
theorem Cs.gns_brk (F : ByteArray → Int) : ∀ (l : List Cs) (V : GEnv) (wd : Int) (p : Nat) (n : Int), (Cs.gns F l V wd p n).1.brk.length ≤ Cs.totals l
  | [], _, _, _, _ => by simp [Cs.gns]
  | .mk num body :: l, V, wd, p, n => by
    simp only [Cs.gns, Cs.gn, Cs.totals, List.length_append]
    exact Nat.add_le_add (Nat.le_trans (St.gns_brk F body _ _ _ _ _) (by simp [Cs.total])) (Cs.gns_brk F l _ _ _ _)
end
end Go.Proofs.YtgobcldecokppaaDoor
