/- The numbers of a program lie in 64 bits. -/
import Derived.Test.YtgobcldecokppaaDoorTr
namespace Go.Proofs.YtgobcldecokppaaDoor
open Go.RowKit

def in64 (z : Int) : Prop := -9223372036854775808 ≤ z ∧ z ≤ 9223372036854775807
theorem in64_of_wf {k : Int} (h : (Lit.int .i64 k).wf = true) : in64 k := by
  simp [Lit.wf, IntKind.min, IntKind.max, IntKind.signed, IntKind.bits] at h
  unfold in64
  omega
mutual
def Ex.rng : Ex → Prop
  | .mk _ n _ l => in64 n ∧ Ex.rngs l
def Ex.rngs : List Ex → Prop
  | [] => True
  | x :: l => Ex.rng x ∧ Ex.rngs l
end
mutual
def St.rng : St → Prop
  | .mk _ _ n a b body els cases => in64 n ∧ a.rng ∧ b.rng ∧ St.rngs body ∧ St.rngs els ∧ Cs.rngs cases
def St.rngs : List St → Prop
  | [] => True
  | x :: l => St.rng x ∧ St.rngs l
def Cs.rng : Cs → Prop
  | .mk n body => in64 n ∧ St.rngs body
def Cs.rngs : List Cs → Prop
  | [] => True
  | x :: l => Cs.rng x ∧ Cs.rngs l
end
theorem Ex.rng_eq (x : Ex) : x.rng ↔ in64 x.n ∧ Ex.rngs x.args := by cases x; simp only [Ex.rng, Ex.n, Ex.args]
theorem St.rng_eq (x : St) : x.rng ↔ in64 x.n ∧ x.a.rng ∧ x.b.rng ∧ St.rngs x.body ∧ St.rngs x.els ∧ Cs.rngs x.cases := by cases x; simp only [St.rng, St.n, St.a, St.b, St.body, St.els, St.cases]
theorem Cs.rng_eq (x : Cs) : x.rng ↔ in64 x.n ∧ St.rngs x.body := by cases x; simp only [Cs.rng, Cs.n, Cs.body]
theorem Ex.rngs_iff (l : List Ex) : Ex.rngs l ↔ ∀ x ∈ l, x.rng := by
  induction l with
  | nil => simp [Ex.rngs]
  | cons y l ih => simp [Ex.rngs, ih]
theorem St.rngs_iff (l : List St) : St.rngs l ↔ ∀ x ∈ l, x.rng := by
  induction l with
  | nil => simp [St.rngs]
  | cons y l ih => simp [St.rngs, ih]
theorem Cs.rngs_iff (l : List Cs) : Cs.rngs l ↔ ∀ x ∈ l, x.rng := by
  induction l with
  | nil => simp [Cs.rngs]
  | cons y l ih => simp [Cs.rngs, ih]
theorem Ex.rngs_at {l : List Ex} (h : Ex.rngs l) {i : Nat} {x : Ex} (hx : l[i]? = some x) : x.rng := (Ex.rngs_iff l).1 h x (List.mem_of_getElem? hx)
theorem St.rngs_at {l : List St} (h : St.rngs l) {i : Nat} {x : St} (hx : l[i]? = some x) : x.rng := (St.rngs_iff l).1 h x (List.mem_of_getElem? hx)
theorem Cs.rngs_at {l : List Cs} (h : Cs.rngs l) {i : Nat} {x : Cs} (hx : l[i]? = some x) : x.rng := (Cs.rngs_iff l).1 h x (List.mem_of_getElem? hx)
def Pg.rng (p : Pg) : Prop := ∀ f ∈ p.funcs, St.rngs f.body ∧ ∀ x ∈ f.params, in64 x.lo ∧ in64 x.hi
theorem Pg.rng_at {p : Pg} (h : p.rng) {i : Nat} {f : Fn} (hf : p.funcs[i]? = some f) : St.rngs f.body := (h f (List.mem_of_getElem? hf)).1
end Go.Proofs.YtgobcldecokppaaDoor
