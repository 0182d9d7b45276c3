/- A program's tree: as plain data, and how it reads in memory. -/
import Derived.Test.YtgobcldecokppaaDoorBase
namespace Go.Proofs.YtgobcldecokppaaDoor
open Go.RowKit

inductive Ex where
  | mk (kind n : Int) (name : ByteArray) (args : List Ex)
def Ex.kind : Ex → Int | .mk k _ _ _ => k
def Ex.n : Ex → Int | .mk _ n _ _ => n
def Ex.name : Ex → ByteArray | .mk _ _ s _ => s
def Ex.args : Ex → List Ex | .mk _ _ _ l => l
mutual
inductive St where
  | mk (kind : Int) (name : ByteArray) (n : Int) (a b : Ex) (body els : List St) (cases : List Cs)
inductive Cs where
  | mk (n : Int) (body : List St)
end
def St.kind : St → Int | .mk k _ _ _ _ _ _ _ => k
def St.name : St → ByteArray | .mk _ s _ _ _ _ _ _ => s
def St.n : St → Int | .mk _ _ n _ _ _ _ _ => n
def St.a : St → Ex | .mk _ _ _ a _ _ _ _ => a
def St.b : St → Ex | .mk _ _ _ _ b _ _ _ => b
def St.body : St → List St | .mk _ _ _ _ _ d _ _ => d
def St.els : St → List St | .mk _ _ _ _ _ _ e _ => e
def St.cases : St → List Cs | .mk _ _ _ _ _ _ _ c => c
def Cs.n : Cs → Int | .mk n _ => n
def Cs.body : Cs → List St | .mk _ l => l
structure Pm where
  name : ByteArray
  lo : Int
  hi : Int
structure Fn where
  name : ByteArray
  params : List Pm
  body : List St
structure Pg where
  widen : List Int
  funcs : List Fn

/-- v reads as n places of size cells each; what lies at place i says P of the block and the offset. -/
def RowOf (w : World) (v : Value) (n size : Nat) (P : Nat → Nat → Nat → Prop) : Prop :=
  ∃ a cap, v = .slice a n cap ∧ n ≤ cap ∧ cap ≤ maxLen ∧ (a = none → cap = 0) ∧ (0 < n → ∃ b off, a = some ⟨b, off, none⟩ ∧ b < w.heap.size ∧ ∀ i, i < n → P b (off + i * size) i)
theorem RowOf.imp {w w' : World} {v : Value} {n size : Nat} {P Q : Nat → Nat → Nat → Prop} (h : RowOf w v n size P) (hs : w.heap.size ≤ w'.heap.size) (hp : ∀ b o i, b < w.heap.size → i < n → P b o i → Q b o i) : RowOf w' v n size Q := by
  obtain ⟨a, cap, h1, h2, h3, h4, h5⟩ := h
  refine ⟨a, cap, h1, h2, h3, h4, fun h0 => ?_⟩
  obtain ⟨b, off, e, hb, h6⟩ := h5 h0
  exact ⟨b, off, e, by omega, fun i hi => hp _ _ _ hb hi (h6 i hi)⟩
theorem RowOf.form {w : World} {v : Value} {n size : Nat} {P : Nat → Nat → Nat → Prop} (h : RowOf w v n size P) : ∃ a cap, v = .slice a n cap ∧ n ≤ cap ∧ cap ≤ maxLen := by
  obtain ⟨a, cap, h1, h2, h3, _⟩ := h
  exact ⟨a, cap, h1, h2, h3⟩
theorem RowOf.at {w : World} {a : Option Addr} {n m cap size : Nat} {P : Nat → Nat → Nat → Prop} (h : RowOf w (.slice a m cap) n size P) {i : Nat} (hi : i < n) : ∃ b off, a = some ⟨b, off, none⟩ ∧ b < w.heap.size ∧ P b (off + i * size) i := by
  obtain ⟨a', cap', h1, h2, h3, h4, h5⟩ := h
  cases h1
  obtain ⟨b, off, e, hb, h6⟩ := h5 (by omega)
  exact ⟨b, off, e, hb, h6 i hi⟩

structure ExAt (w : World) (b o : Nat) (x : Ex) (v : Value) : Prop where
  c0 : w.cell? ⟨b, o, none⟩ = some (.int .i64 x.kind)
  c1 : w.cell? ⟨b, o + 1, none⟩ = some (.int .i64 x.n)
  c2 : w.cell? ⟨b, o + 2, none⟩ = some (.string x.name)
  c3 : w.cell? ⟨b, o + 3, none⟩ = some v
structure StAt (w : World) (b o : Nat) (x : St) (va vb vd ve vc : Value) : Prop where
  c0 : w.cell? ⟨b, o, none⟩ = some (.int .i64 x.kind)
  c1 : w.cell? ⟨b, o + 1, none⟩ = some (.string x.name)
  c2 : w.cell? ⟨b, o + 2, none⟩ = some (.int .i64 x.n)
  c3 : w.cell? ⟨b, o + 3, none⟩ = some (.int .i64 x.a.kind)
  c4 : w.cell? ⟨b, o + 4, none⟩ = some (.int .i64 x.a.n)
  c5 : w.cell? ⟨b, o + 5, none⟩ = some (.string x.a.name)
  c6 : w.cell? ⟨b, o + 6, none⟩ = some va
  c7 : w.cell? ⟨b, o + 7, none⟩ = some (.int .i64 x.b.kind)
  c8 : w.cell? ⟨b, o + 8, none⟩ = some (.int .i64 x.b.n)
  c9 : w.cell? ⟨b, o + 9, none⟩ = some (.string x.b.name)
  c10 : w.cell? ⟨b, o + 10, none⟩ = some vb
  c11 : w.cell? ⟨b, o + 11, none⟩ = some vd
  c12 : w.cell? ⟨b, o + 12, none⟩ = some ve
  c13 : w.cell? ⟨b, o + 13, none⟩ = some vc
structure CsAt (w : World) (b o : Nat) (x : Cs) (v : Value) : Prop where
  c0 : w.cell? ⟨b, o, none⟩ = some (.int .i64 x.n)
  c1 : w.cell? ⟨b, o + 1, none⟩ = some v
structure FnCells (w : World) (b o : Nat) (x : Fn) (vp vb : Value) : Prop where
  c0 : w.cell? ⟨b, o, none⟩ = some (.string x.name)
  c1 : w.cell? ⟨b, o + 1, none⟩ = some vp
  c2 : w.cell? ⟨b, o + 2, none⟩ = some vb
structure PmAt (w : World) (b o : Nat) (x : Pm) : Prop where
  c0 : w.cell? ⟨b, o, none⟩ = some (.string x.name)
  c1 : w.cell? ⟨b, o + 1, none⟩ = some (.int .i64 x.lo)
  c2 : w.cell? ⟨b, o + 2, none⟩ = some (.int .i64 x.hi)
theorem ExAt.later {w w' : World} {b o : Nat} {x : Ex} {v : Value} (h : ExAt w b o x v) {B : Nat} (hb : Below B w w') (hB : b < B) : ExAt w' b o x v :=
  have k := fun j => hb.cell (p := ⟨b, j, none⟩) hB
  ⟨(k _).trans h.c0, (k _).trans h.c1, (k _).trans h.c2, (k _).trans h.c3⟩
theorem StAt.later {w w' : World} {b o : Nat} {x : St} {va vb vd ve vc : Value} (h : StAt w b o x va vb vd ve vc) {B : Nat} (hb : Below B w w') (hB : b < B) : StAt w' b o x va vb vd ve vc :=
  have k := fun j => hb.cell (p := ⟨b, j, none⟩) hB
  ⟨(k _).trans h.c0, (k _).trans h.c1, (k _).trans h.c2, (k _).trans h.c3, (k _).trans h.c4, (k _).trans h.c5, (k _).trans h.c6, (k _).trans h.c7, (k _).trans h.c8, (k _).trans h.c9, (k _).trans h.c10, (k _).trans h.c11, (k _).trans h.c12, (k _).trans h.c13⟩
theorem CsAt.later {w w' : World} {b o : Nat} {x : Cs} {v : Value} (h : CsAt w b o x v) {B : Nat} (hb : Below B w w') (hB : b < B) : CsAt w' b o x v :=
  have k := fun j => hb.cell (p := ⟨b, j, none⟩) hB
  ⟨(k _).trans h.c0, (k _).trans h.c1⟩
theorem FnCells.later {w w' : World} {b o : Nat} {x : Fn} {vp vb : Value} (h : FnCells w b o x vp vb) {B : Nat} (hb : Below B w w') (hB : b < B) : FnCells w' b o x vp vb :=
  have k := fun j => hb.cell (p := ⟨b, j, none⟩) hB
  ⟨(k _).trans h.c0, (k _).trans h.c1, (k _).trans h.c2⟩
theorem PmAt.later {w w' : World} {b o : Nat} {x : Pm} (h : PmAt w b o x) {B : Nat} (hb : Below B w w') (hB : b < B) : PmAt w' b o x :=
  have k := fun j => hb.cell (p := ⟨b, j, none⟩) hB
  ⟨(k _).trans h.c0, (k _).trans h.c1, (k _).trans h.c2⟩

/-- v reads as a list of expressions. -/
inductive ExsIn (w : World) : List Ex → Value → Prop
  | mk (l : List Ex) (v : Value) (vs : Nat → Value) (h : RowOf w v l.length 4 (fun b o i => ∀ x, l[i]? = some x → ExAt w b o x (vs i)))
      (each : ∀ (i : Nat) x, l[i]? = some x → ExsIn w x.args (vs i)) : ExsIn w l v
/-- v reads as a list of statements. -/
inductive StsIn (w : World) : List St → Value → Prop
  | mk (l : List St) (v : Value) (va vb vd ve vc : Nat → Value) (vk : Nat → Nat → Value)
      (h : RowOf w v l.length 14 (fun b o i => ∀ x, l[i]? = some x → StAt w b o x (va i) (vb i) (vd i) (ve i) (vc i)))
      (ha : ∀ (i : Nat) x, l[i]? = some x → ExsIn w x.a.args (va i)) (hb : ∀ (i : Nat) x, l[i]? = some x → ExsIn w x.b.args (vb i))
      (hd : ∀ (i : Nat) x, l[i]? = some x → StsIn w x.body (vd i)) (he : ∀ (i : Nat) x, l[i]? = some x → StsIn w x.els (ve i))
      (hc : ∀ (i : Nat) x, l[i]? = some x → RowOf w (vc i) x.cases.length 2 (fun b o k => ∀ y, x.cases[k]? = some y → CsAt w b o y (vk i k)))
      (hk : ∀ (i : Nat) x (k : Nat) y, l[i]? = some x → x.cases[k]? = some y → StsIn w y.body (vk i k)) : StsIn w l v
theorem ExsIn.form {w : World} {l : List Ex} {v : Value} (h : ExsIn w l v) : ∃ a cap, v = .slice a l.length cap ∧ l.length ≤ cap ∧ cap ≤ maxLen := by
  cases h with | mk _ _ _ h => exact h.form
theorem StsIn.form {w : World} {l : List St} {v : Value} (h : StsIn w l v) : ∃ a cap, v = .slice a l.length cap ∧ l.length ≤ cap ∧ cap ≤ maxLen := by
  cases h with | mk _ _ _ _ _ _ _ _ h => exact h.form
/-- v reads as a list of functions. -/
structure FnsIn (w : World) (l : List Fn) (v : Value) (vp vb : Nat → Value) : Prop where
  row : RowOf w v l.length 3 (fun b o i => ∀ x, l[i]? = some x → FnCells w b o x (vp i) (vb i))
  params : ∀ (i : Nat) x, l[i]? = some x → RowOf w (vp i) x.params.length 3 (fun b o k => ∀ y, x.params[k]? = some y → PmAt w b o y)
  body : ∀ (i : Nat) x, l[i]? = some x → StsIn w x.body (vb i)
def pgV (vw vf : Value) : Value := .agg #[vw, vf]
structure PgIn (w : World) (p : Pg) (vw vf : Value) (vp vb : Nat → Value) : Prop where
  widen : IntsIn w vw p.widen
  funcs : FnsIn w p.funcs vf vp vb

theorem ExsIn.later {w w' : World} {l : List Ex} {v : Value} (h : ExsIn w l v) (hb : Below w.heap.size w w') : ExsIn w' l v := by
  induction h with
  | mk l v vs h _ ih => exact .mk l v vs (h.imp hb.size fun b o i hbl _ hp x hx => (hp x hx).later hb hbl) ih
theorem StsIn.later {w w' : World} {l : List St} {v : Value} (h : StsIn w l v) (hb : Below w.heap.size w w') : StsIn w' l v := by
  induction h with
  | mk l v va vb vd ve vc vk h ha hb' _ _ hc _ ih1 ih2 ih3 =>
    exact .mk l v va vb vd ve vc vk (h.imp hb.size fun b o i hbl _ hp x hx => (hp x hx).later hb hbl) (fun i x hx => (ha i x hx).later hb) (fun i x hx => (hb' i x hx).later hb) ih1 ih2
      (fun i x hx => (hc i x hx).imp hb.size fun b o k hbl _ hp y hy => (hp y hy).later hb hbl) ih3
theorem FnsIn.later {w w' : World} {l : List Fn} {v : Value} {vp vb : Nat → Value} (h : FnsIn w l v vp vb) (hb : Below w.heap.size w w') : FnsIn w' l v vp vb :=
  ⟨h.row.imp hb.size fun _ _ _ hbl _ hp x hx => (hp x hx).later hb hbl, fun i x hx => (h.params i x hx).imp hb.size fun _ _ _ hbl _ hp y hy => (hp y hy).later hb hbl, fun i x hx => (h.body i x hx).later hb⟩
theorem PgIn.later {w w' : World} {p : Pg} {vw vf : Value} {vp vb : Nat → Value} (h : PgIn w p vw vf vp vb) (hb : Below w.heap.size w w') : PgIn w' p vw vf vp vb := ⟨SliceIn.later h.widen hb, h.funcs.later hb⟩
end Go.Proofs.YtgobcldecokppaaDoor
