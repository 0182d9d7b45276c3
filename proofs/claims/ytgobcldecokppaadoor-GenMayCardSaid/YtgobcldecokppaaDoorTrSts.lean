/- tree.Nodes: statements counted. -/
import Derived.Test.YtgobcldecokppaaDoorTr
/- How many parts a program's tree has. -/
namespace Go.Proofs.YtgobcldecokppaaDoor
open Go.RowKit

mutual
def Ex.total : Ex → Nat
  | .mk _ _ _ l => 1 + Ex.totals l
def Ex.totals : List Ex → Nat
  | [] => 0
  | x :: l => Ex.total x + Ex.totals l
end
/-- Whether all of an expression is zero. -/
def Ex.zero (x : Ex) : Bool := x.kind == 0 && x.n == 0 && x.name.size == 0 && x.args.length == 0
def Ex.part (x : Ex) : Nat := if x.zero then 0 else x.total
mutual
def St.total : St → Nat
  | .mk _ _ _ a b body els cases => 1 + a.part + b.part + St.totals body + Cs.totals cases + St.totals els
def St.totals : List St → Nat
  | [] => 0
  | x :: l => St.total x + St.totals l
def Cs.total : Cs → Nat
  | .mk _ body => 1 + St.totals body
def Cs.totals : List Cs → Nat
  | [] => 0
  | x :: l => Cs.total x + Cs.totals l
end
theorem Ex.total_eq (x : Ex) : x.total = 1 + Ex.totals x.args := by cases x; rfl
theorem St.total_eq (x : St) : x.total = 1 + x.a.part + x.b.part + St.totals x.body + Cs.totals x.cases + St.totals x.els := by cases x; rfl
theorem Cs.total_eq (x : Cs) : x.total = 1 + St.totals x.body := by cases x; rfl
theorem Ex.totals_snoc (l : List Ex) (x : Ex) : Ex.totals (l ++ [x]) = Ex.totals l + x.total := by
  induction l with
  | nil => simp [Ex.totals]
  | cons y l ih => simp only [List.cons_append, Ex.totals, ih]; omega
theorem St.totals_snoc (l : List St) (x : St) : St.totals (l ++ [x]) = St.totals l + x.total := by
  induction l with
  | nil => simp [St.totals]
  | cons y l ih => simp only [List.cons_append, St.totals, ih]; omega
theorem Cs.totals_snoc (l : List Cs) (x : Cs) : Cs.totals (l ++ [x]) = Cs.totals l + x.total := by
  induction l with
  | nil => simp [Cs.totals]
  | cons y l ih => simp only [List.cons_append, Cs.totals, ih]; omega
theorem take_next {α : Type} {l : List α} {i : Nat} {x : α} (h : l[i]? = some x) : l.take (i + 1) = l.take i ++ [x] := by rw [List.take_add_one, h]; rfl
theorem Ex.totals_take {l : List Ex} {i : Nat} {x : Ex} (h : l[i]? = some x) : Ex.totals (l.take (i + 1)) = Ex.totals (l.take i) + x.total := by rw [take_next h, Ex.totals_snoc]
theorem St.totals_take {l : List St} {i : Nat} {x : St} (h : l[i]? = some x) : St.totals (l.take (i + 1)) = St.totals (l.take i) + x.total := by rw [take_next h, St.totals_snoc]
theorem Cs.totals_take {l : List Cs} {i : Nat} {x : Cs} (h : l[i]? = some x) : Cs.totals (l.take (i + 1)) = Cs.totals (l.take i) + x.total := by rw [take_next h, Cs.totals_snoc]
theorem Ex.totals_le {l : List Ex} (i : Nat) : Ex.totals (l.take i) ≤ Ex.totals l := by
  induction l generalizing i with
  | nil => simp
  | cons y l ih => cases i with
    | zero => simp [Ex.totals]
    | succ i => simp only [List.take_succ_cons, Ex.totals]; have := ih i; omega
theorem St.totals_le {l : List St} (i : Nat) : St.totals (l.take i) ≤ St.totals l := by
  induction l generalizing i with
  | nil => simp
  | cons y l ih => cases i with
    | zero => simp [St.totals]
    | succ i => simp only [List.take_succ_cons, St.totals]; have := ih i; omega
theorem Cs.totals_le {l : List Cs} (i : Nat) : Cs.totals (l.take i) ≤ Cs.totals l := by
  induction l generalizing i with
  | nil => simp
  | cons y l ih => cases i with
    | zero => simp [Cs.totals]
    | succ i => simp only [List.take_succ_cons, Cs.totals]; have := ih i; omega
/-- Up to one more than may be. -/
def upto (n : Nat) : Nat := min n 4097
theorem upto_add (a b : Nat) : upto (upto a + b) = upto (a + b) := by unfold upto; omega
theorem upto_full {a b : Nat} (h : 4096 < upto a) : upto (a + b) = upto a := by unfold upto at *; omega
theorem upto_of {a : Nat} (h : a ≤ 4097) : upto a = a := by unfold upto; omega
theorem upto_stop {k s t : Nat} (h : s ≤ t) (hf : 4096 < upto (k + s)) : upto (k + t) = upto (k + s) := by unfold upto at *; omega
theorem upto_one {k : Nat} (hf : ¬ 4096 < upto k) : upto k + 1 ≤ 4097 := by unfold upto at *; omega
theorem upto_le (a : Nat) : upto a ≤ 4097 := by unfold upto; omega
end Go.Proofs.YtgobcldecokppaaDoor

/- tree.Nodes: how many parts a program has, up to one more than may be. -/
namespace Go.Proofs.YtgobcldecokppaaDoor
open Go.RowKit

/-- All blocks that were there are as they were, but for those of S. -/
structure Oth (S : Nat → Prop) (w w' : World) : Prop where
  os : w'.os = w.os
  tape : w'.tape = w.tape
  output : w'.output = w.output
  size : w.heap.size ≤ w'.heap.size
  block : ∀ k, k < w.heap.size → ¬ S k → w'.heap[k]? = w.heap[k]?
theorem Oth.refl (S : Nat → Prop) (w : World) : Oth S w w := ⟨rfl, rfl, rfl, Nat.le_refl _, fun _ _ _ => rfl⟩
theorem Oth.trans {S : Nat → Prop} {w w1 w2 : World} (h : Oth S w w1) (k : Oth S w1 w2) : Oth S w w2 :=
  ⟨k.os.trans h.os, k.tape.trans h.tape, k.output.trans h.output, Nat.le_trans h.size k.size, fun i hi hc => (k.block i (Nat.lt_of_lt_of_le hi h.size) hc).trans (h.block i hi hc)⟩
theorem Oth.of_below {S : Nat → Prop} {w w' : World} (h : Below w.heap.size w w') : Oth S w w' := ⟨h.os, h.tape, h.output, h.size, fun i hi _ => h.block i hi⟩
theorem Oth.below {S : Nat → Prop} {w w' : World} {B : Nat} (h : Oth S w w') (hB : B ≤ w.heap.size) (hc : ∀ k, S k → B ≤ k) : Below B w w' := ⟨h.os, h.tape, h.output, h.size, fun i hi => h.block i (by omega) (fun hs => by have := hc i hs; omega)⟩
theorem Oth.cell {S : Nat → Prop} {w w' : World} (h : Oth S w w') {p : Addr} (hp : p.block < w.heap.size) (hc : ¬ S p.block) : w'.cell? p = w.cell? p := World.cell?_of_block (h.block p.block hp hc)
theorem Oth.frozen {S : Nat → Prop} {w w' : World} (h : Oth S w w') {p : Addr} (hp : p.block < w.heap.size) (hc : ¬ S p.block) : w'.frozen? p = w.frozen? p := World.frozen?_of_block (h.block p.block hp hc)
theorem Oth.alloc {S : Nat → Prop} {w w' : World} (h : Oth S w w') (o : Obj) : Oth S w (w'.alloc o) := h.trans (.of_below ((Below.refl _ _).alloc (Nat.le_refl _) _))
theorem Oth.set {S : Nat → Prop} {w w' : World} (h : Oth S w w') {p : Addr} (hp : S p.block) (v : Value) : Oth S w (w'.setCell p v) :=
  h.trans ⟨rfl, rfl, rfl, by rw [size_set]; exact Nat.le_refl _, fun i _ hs => Below.heap_setCell _ _ _ _ (fun e => hs (by rw [e]; exact hp))⟩
theorem Oth.imp {S T : Nat → Prop} {w w' : World} (h : Oth S w w') (hst : ∀ k, k < w.heap.size → S k → T k) : Oth T w w' := ⟨h.os, h.tape, h.output, h.size, fun i hi hc => h.block i hi fun hs => hc (hst i hi hs)⟩

/-- A counter of parts in memory. -/
structure CAt (W : World) (c k : Nat) : Prop where
  cell : W.cell? ⟨c, 0, none⟩ = some (.int .i64 (k : Int))
  free : W.frozen? ⟨c, 0, none⟩ = false
  le : k ≤ 4097
theorem CAt.lt {W : World} {c k : Nat} (h : CAt W c k) : c < W.heap.size := block_lt_of_cell h.cell
theorem CAt.later {W W' : World} {c k : Nat} (h : CAt W c k) (hb : Below W.heap.size W W') : CAt W' c k := ⟨(hb.cell (p := ⟨c, 0, none⟩) h.lt).trans h.cell, (hb.frozen (p := ⟨c, 0, none⟩) h.lt).trans h.free, h.le⟩
theorem CAt.put {W : World} {c k : Nat} (h : CAt W c k) {m : Nat} (hm : m ≤ 4097) : CAt (W.setCell ⟨c, 0, none⟩ (.int .i64 (m : Int))) c m :=
  ⟨World.cell?_setCell_same' _ _ _ (by rw [h.cell]; rfl), (World.frozen?_setCell _ _ _ _).trans h.free, hm⟩
abbrev ptrV (c : Nat) : Value := .pointer (some ⟨c, 0, none⟩)

theorem full_any (c k : Nat) (W : World) (h : CAt W c k) : Calls Tryd.prog 58 #[ptrV c] W (fun e W' => e = .returned (.bool (decide (4096 < k))) ∧ W = W') := by
  have hc := h.cell
  have hk := h.le
  clear h
  go_enter Tryd.func58, Tryd.ntmps58
  go_wp2_with fail
  go_ret
  exact ⟨by go_num, rfl⟩
def exVal (x : Ex) (v : Value) : Value := .agg #[.int .i64 x.kind, .int .i64 x.n, .string x.name, v]
theorem zero_any (x : Ex) (v : Value) (a : Option Addr) (cap : Nat) (W : World) (hv : v = .slice a x.args.length cap) : Calls Tryd.prog 59 #[exVal x v] W (Gives (.bool x.zero) W) := by
  obtain ⟨k, n, s, l⟩ := x
  subst hv
  obtain ⟨m, hm⟩ : ∃ m, m = l.length := ⟨_, rfl⟩
  have hz : (Ex.mk k n s l).zero = (k == 0 && n == 0 && s.size == 0 && m == 0) := by rw [hm]; rfl
  rw [hz]
  unfold exVal Ex.kind Ex.n Ex.name Ex.args
  simp only
  rw [← hm]
  clear hz hm
  have hs0 : (s.size == 0) = decide (s.toList = []) := by
    have h1 : s.size = s.toList.length := by rw [ByteArray.toList_eq s, Array.length_toList]; rfl
    rw [h1]
    cases s.toList <;> rfl
  rw [hs0]
  clear hs0
  go_enter Tryd.func59, Tryd.ntmps59
  go_wp2_with fail
  all_goals
    (try go_ret)
    refine ⟨?_, (Below.refl _ _).alloc (Nat.le_refl _) _⟩
    apply congrArg (fun b => Ending.returned (.bool b))
    (try (have hz : ((m : Int) == 0) = (m == 0) := by rw [Bool.eq_iff_iff]; simp only [beq_iff_eq]; omega))
    simp_all
theorem ExAt.oth {S : Nat → Prop} {w w' : World} {b o : Nat} {x : Ex} {v : Value} (h : ExAt w b o x v) (hO : Oth S w w') (hb : b < w.heap.size) (hs : ¬ S b) : ExAt w' b o x v :=
  have k := fun j => hO.cell (p := ⟨b, j, none⟩) hb hs
  ⟨(k _).trans h.c0, (k _).trans h.c1, (k _).trans h.c2, (k _).trans h.c3⟩
theorem StAt.oth {S : Nat → Prop} {w w' : World} {b o : Nat} {x : St} {va vb vd ve vc : Value} (h : StAt w b o x va vb vd ve vc) (hO : Oth S w w') (hb : b < w.heap.size) (hs : ¬ S b) : StAt w' b o x va vb vd ve vc :=
  have k := fun j => hO.cell (p := ⟨b, j, none⟩) hb hs
  ⟨(k _).trans h.c0, (k _).trans h.c1, (k _).trans h.c2, (k _).trans h.c3, (k _).trans h.c4, (k _).trans h.c5, (k _).trans h.c6, (k _).trans h.c7, (k _).trans h.c8, (k _).trans h.c9, (k _).trans h.c10, (k _).trans h.c11, (k _).trans h.c12, (k _).trans h.c13⟩
set_option maxRecDepth 100000 in
set_option maxHeartbeats 2000000 in
/-- Counting a list of expressions whose arguments are counted. -/
theorem exprs_row (l : List Ex) (v : Value) (vs : Nat → Value) (W : World) (c k : Nat) (h : RowOf W v l.length 4 (fun b o i => b ≠ c ∧ ∀ x, l[i]? = some x → ExAt W b o x (vs i)))
    (hf : ∀ (i : Nat) x, l[i]? = some x → ∃ a cap, vs i = .slice a x.args.length cap)
    (ih : ∀ (i : Nat) x, l[i]? = some x → ∀ W' k', Oth (· = c) W W' → CAt W' c k' → Calls Tryd.prog 60 #[ptrV c, vs i] W' (fun e W'' => e = .returned (.tuple #[]) ∧ CAt W'' c (upto (k' + Ex.totals x.args)) ∧ Oth (· = c) W' W''))
    (hC : CAt W c k) :
    Calls Tryd.prog 60 #[ptrV c, v] W (fun e W' => e = .returned (.tuple #[]) ∧ CAt W' c (upto (k + Ex.totals l)) ∧ Oth (· = c) W W') := by
  obtain ⟨a, cap, rfl, hncap, hcap⟩ := h.form
  obtain ⟨n, hn⟩ : ∃ n, n = l.length := ⟨_, rfl⟩
  have hk := hC.le
  have Hn := Lib.hid hn
  have Hrow : Hid (RowOf W (.slice a n cap) l.length 4 (fun b o i => b ≠ c ∧ ∀ x, l[i]? = some x → ExAt W b o x (vs i))) := by rw [hn]; exact h
  have Hih := Lib.hid (And.intro ih hf)
  have HC := Lib.hid hC
  rw [← hn]
  rw [← hn] at hncap
  have hn62 : n ≤ 9223372036854775807 := by have : maxLen ≤ 9223372036854775807 := by decide
                                            omega
  clear h ih hf hn hC
  go_enter Tryd.func60, Tryd.ntmps60
  go_wp2_with fail
  go_loopg [8] n (fun g iv wx => ∃ i : Nat, g = n - i ∧ iv = .int .i64 (i : Int) ∧ i ≤ n ∧ CAt wx c (upto (k + Ex.totals (l.take i))) ∧ Oth (· = c) W wx)
  case atStart => exact ⟨0, rfl, rfl, Nat.zero_le _, by simpa [Ex.totals, upto_of hk] using HC.out, Oth.refl _ _⟩
  case round =>
    obtain ⟨i, hg, rfl, hi, hC, hO⟩ := hrel
    have HO := Lib.hid hO
    by_cases hin : i < n
    · obtain ⟨x, hx⟩ : ∃ x, l[i]? = some x := ⟨_, List.getElem?_eq_getElem (by rw [← Hn.out]; exact hin)⟩
      obtain ⟨b, off, rfl, hb, hbc, hP⟩ := Hrow.out.at (i := i) (by rw [← Hn.out]; exact hin)
      obtain ⟨i0, i1, i2, i3⟩ := (hP x hx).oth hO hb hbc
      have ihx := Hih.out.1 i x hx
      obtain ⟨a', cap', hvs⟩ := Hih.out.2 i x hx
      rw [hvs] at i3 ihx
      obtain ⟨m, hm⟩ : ∃ m, m = x.args.length := ⟨_, rfl⟩
      rw [← hm] at i3 ihx
      have Hihx := Lib.hid ihx
      have Hx := Lib.hid hx
      have Hg := Lib.hid hg
      have HC2 := Lib.hid hC
      obtain ⟨kk, hkk⟩ : ∃ kk, kk = upto (k + Ex.totals (l.take i)) := ⟨_, rfl⟩
      rw [← hkk] at hC HC2
      have Hkk := Lib.hid hkk
      have q0 := block_lt_of_cell i0
      have q1 := hC.lt
      obtain ⟨W1, hW1⟩ : ∃ W1, W1 = wr.alloc (.cells #[.int .i64 x.kind, .int .i64 x.n, .string x.name, Value.slice a' m cap'] 53) := ⟨_, rfl⟩
      have hC1 : CAt W1 c kk := by rw [hW1]; exact hC.later ((Below.refl _ _).alloc (Nat.le_refl _) _)
      have hO1 : Oth (· = c) wr W1 := by rw [hW1]; exact (Oth.refl _ _).alloc _
      have hs1 : W1.heap.size = wr.heap.size + 1 := by rw [hW1]; simp
      have hv1 : W1.cell? ⟨wr.heap.size, 3, none⟩ = some (.slice a' m cap') := by rw [hW1]; exact World.cell?_alloc_at _ _ _ _ rfl
      have H1 := Lib.hid (And.intro hC1 (And.intro hO1 hs1))
      have HW1 := Lib.hid hW1
      clear hkk hC hO hP hx hg hC1 hO1 hs1 hW1 ihx hvs hm
      go_wp2_with fail
      rw [← HW1.out]
      refine (full_any c kk _ H1.out.1).mono ?_
      rintro e w1 ⟨rfl, hw1⟩
      rw [← hw1]
      clear hw1
      by_cases hf : 4096 < kk
      · have hq : decide (4096 < kk) = true := decide_eq_true hf
        have Hres : Hid (upto (k + Ex.totals l) = kk) := by
          show _ = _
          rw [Hkk.out] at hf ⊢
          exact upto_stop (Ex.totals_le i) hf
        rw [hq]
        clear hf hq
        go_wp2_with fail
        refine bodyPost_ret (results_none rfl _ _ _) rfl ?_
        exact ⟨rfl, by rw [Hres.out]; exact H1.out.1, HO.out.trans H1.out.2.1⟩
      · have hq : decide (4096 < kk) = false := decide_eq_false hf
        have hk1 : kk + 1 ≤ 4097 := by omega
        obtain ⟨W2, hW2⟩ : ∃ W2, W2 = W1.setCell ⟨c, 0, none⟩ (.int .i64 (((kk + 1 : Nat) : Int))) := ⟨_, rfl⟩
        have hC2 : CAt W2 c (kk + 1) := by rw [hW2]; exact H1.out.1.put hk1
        have hO2 : Oth (· = c) W1 W2 := by rw [hW2]; exact (Oth.refl (· = c) W1).set (p := ⟨c, 0, none⟩) rfl _
        have hv2 : W2.cell? ⟨wr.heap.size, 3, none⟩ = some (.slice a' m cap') := by rw [hO2.cell (by show wr.heap.size < _; rw [H1.out.2.2]; omega) (by show ¬ wr.heap.size = c; omega)]; exact hv1
        have H2 := Lib.hid (And.intro hC2 hO2)
        have hcell := H1.out.1.cell
        have hfree := H1.out.1.free
        have e1 : Hid ((kk : Int) + 1 = ((kk + 1 : Nat) : Int)) := by show _ = _; omega
        have q3 := H1.out.2.2
        have HW2 := Lib.hid hW2
        rw [hq]
        clear hW2 hq hC2 hO2 hv1
        go_upto_region 5 with (fail)
        rw [e1.out, ← HW2.out]
        go_wp2_with fail
        have hOw := H1.out.2.1.trans H2.out.2
        refine (Hihx.out W2 (kk + 1) (HO.out.trans hOw) H2.out.1).mono ?_
        rintro e w3 ⟨rfl, hC3, hO3⟩
        have H3 := Lib.hid (And.intro hC3 (hOw.trans hO3))
        clear hC3 hO3 hOw hcell hfree hv2
        go_wp2_with fail
        go_roundg (n - (i + 1))
        case measure => have := Hg.out; omega
        case rel => exact ⟨i + 1, rfl, by go_num, hin, by
            have h := H3.out.1
            rw [Hkk.out, Nat.add_assoc, upto_add, ← Ex.total_eq, Nat.add_assoc, ← Ex.totals_take Hx.out] at h
            exact h, HO.out.trans H3.out.2⟩
    · obtain rfl : n = i := by omega
      have Hres : Hid (Ex.totals (l.take n) = Ex.totals l) := by show _ = _; rw [List.take_of_length_le (by rw [← Hn.out]; exact Nat.le_refl _)]
      have HC2 := Lib.hid hC
      clear hin hC hO
      go_wp2_with fail
      refine bodyPost_end (results_none rfl _ _ _) rfl ?_
      exact ⟨rfl, by rw [← Hres.out]; exact HC2.out, HO.out⟩
theorem exprs_any (l : List Ex) (v : Value) (w0 : World) (h : ExsIn w0 l v) : ∀ W c k, Below w0.heap.size w0 W → w0.heap.size ≤ c → CAt W c k →
    Calls Tryd.prog 60 #[ptrV c, v] W (fun e W' => e = .returned (.tuple #[]) ∧ CAt W' c (upto (k + Ex.totals l)) ∧ Oth (· = c) W W') := by
  induction h with
  | mk l v vs h each ih =>
  intro W c k hB hcb hC
  exact exprs_row l v vs W c k (h.imp hB.size fun b o i hb _ hp => ⟨by omega, fun x hx => (hp x hx).later hB hb⟩) (fun i x hx => by obtain ⟨a, cap, e, _⟩ := (each i x hx).form; exact ⟨a, cap, e⟩)
    (fun i x hx W' k' hO hC' => ih i x hx W' c k' (hB.trans (hO.below hB.size fun _ e => by omega)) hcb hC') hC
end Go.Proofs.YtgobcldecokppaaDoor

/- R2.Nodes: how many parts a program has, up to one more than may be. -/
namespace Go.Proofs.YtgobcldecokppaaDoor
open Go.RowKit

/-- What the reference counts of t parts: all, or one more than may be. -/
def leftN (t : Nat) (left : Int) : Nat := min t (left + 1).toNat
end Go.Proofs.YtgobcldecokppaaDoor

namespace Go.Proofs.YtgobcldecokppaaDoor
open Go.RowKit

def St.parts (x : St) : Nat → Nat
  | 0 => 0
  | 1 => x.a.part
  | _ => x.a.part + x.b.part
theorem StAt.box (w : World) (x : St) (va vb vd ve vc : Value) (t : TypeId) : StAt (w.alloc (.cells #[.int .i64 x.kind, .string x.name, .int .i64 x.n, .int .i64 x.a.kind, .int .i64 x.a.n, .string x.a.name, va, .int .i64 x.b.kind, .int .i64 x.b.n, .string x.b.name, vb, vd, ve, vc] t)) w.heap.size 0 x va vb vd ve vc := by
  constructor <;> exact World.cell?_alloc_at _ _ _ _ rfl
theorem CAt.oth {S : Nat → Prop} {W W' : World} {c k : Nat} (h : CAt W c k) (hO : Oth S W W') (hs : ¬ S c) : CAt W' c k := ⟨(hO.cell (p := ⟨c, 0, none⟩) h.lt hs).trans h.cell, (hO.frozen (p := ⟨c, 0, none⟩) h.lt hs).trans h.free, h.le⟩
/-- How a list of statements is counted. -/
def Counts (w0 : World) (l : List St) (v : Value) : Prop := ∀ W c k, Below w0.heap.size w0 W → w0.heap.size ≤ c → CAt W c k →
    Calls Tryd.prog 52 #[ptrV c, v] W (fun e W' => e = .returned (.tuple #[]) ∧ CAt W' c (upto (k + St.totals l)) ∧ Oth (· = c) W W')
def CountsE (w0 : World) (l : List Ex) (v : Value) : Prop := ∀ W c k, Below w0.heap.size w0 W → w0.heap.size ≤ c → CAt W c k →
    Calls Tryd.prog 60 #[ptrV c, v] W (fun e W' => e = .returned (.tuple #[]) ∧ CAt W' c (upto (k + Ex.totals l)) ∧ Oth (· = c) W W')
set_option maxRecDepth 100000 in
set_option maxHeartbeats 4000000 in
theorem stmts_any (l : List St) (v : Value) (w0 : World) (h : StsIn w0 l v) : Counts w0 l v := by
  induction h with
  | mk l v va vb vd ve vc vk h ha hb hd he hc hk ihd ihe ihk =>
  intro W c k hB hcb hC
  obtain ⟨a, cap, rfl, hncap, hcap⟩ := h.form
  obtain ⟨n, hn⟩ : ∃ n, n = l.length := ⟨_, rfl⟩
  have hk1 := hC.le
  have Hn := Lib.hid hn
  have Hrow : Hid (RowOf w0 (.slice a n cap) l.length 14 (fun b o i => ∀ x, l[i]? = some x → StAt w0 b o x (va i) (vb i) (vd i) (ve i) (vc i))) := by rw [hn]; exact h
  have Hih := Lib.hid (And.intro ihd (And.intro ihe ihk))
  have Hf := Lib.hid (And.intro ha (And.intro hb (And.intro hd (And.intro he (And.intro hc hk)))))
  have HB := Lib.hid hB
  have HC := Lib.hid hC
  rw [← hn]
  rw [← hn] at hncap
  have hn62 : n ≤ 9223372036854775807 := by have : maxLen ≤ 9223372036854775807 := by decide
                                            omega
  clear h ha hb hd he hc hk ihd ihe ihk hn hB hC
  go_enter Tryd.func52, Tryd.ntmps52
  go_wp2_with fail
  go_loopg [12] n (fun g iv wx => ∃ i : Nat, g = n - i ∧ iv = .int .i64 (i : Int) ∧ i ≤ n ∧ CAt wx c (upto (k + St.totals (l.take i))) ∧ Oth (· = c) W wx)
  case atStart => exact ⟨0, rfl, rfl, Nat.zero_le _, by simpa [St.totals, upto_of hk1] using HC.out, Oth.refl _ _⟩
  case round =>
    obtain ⟨i, hg, rfl, hi, hC, hO⟩ := hrel
    have HO := Lib.hid hO
    by_cases hin : i < n
    · obtain ⟨Wr, hWr⟩ : ∃ Wr : World, Wr = wr := ⟨_, rfl⟩
      subst hWr
      obtain ⟨x, hx⟩ : ∃ x, l[i]? = some x := ⟨_, List.getElem?_eq_getElem (by rw [← Hn.out]; exact hin)⟩
      obtain ⟨b, off, rfl, hb, hP⟩ := Hrow.out.at (i := i) (by rw [← Hn.out]; exact hin)
      have hB : Below w0.heap.size w0 Wr := HB.out.trans (hO.below HB.out.size fun _ e => by omega)
      have hst := (hP x hx).later hB hb
      obtain ⟨fa, fb, fd, fe, fc, fk⟩ := Hf.out
      obtain ⟨aa, ca, hva, -⟩ := (fa i x hx).form
      obtain ⟨ab, cb, hvb, -⟩ := (fb i x hx).form
      obtain ⟨ad, cd, hvd, -⟩ := (fd i x hx).form
      obtain ⟨ae, ce, hve, -⟩ := (fe i x hx).form
      obtain ⟨ac, cc, hvc, hcc1, hcc2⟩ := (fc i x hx).form
      have fa' : CountsE w0 x.a.args (va i) := exprs_any _ _ _ (fa i x hx)
      have fb' : CountsE w0 x.b.args (vb i) := exprs_any _ _ _ (fb i x hx)
      have fd' : Counts w0 x.body (vd i) := Hih.out.1 i x hx
      have fe' : Counts w0 x.els (ve i) := Hih.out.2.1 i x hx
      have fc' := fc i x hx
      have fk' : ∀ (j : Nat) y, x.cases[j]? = some y → StsIn w0 y.body (vk i j) ∧ Counts w0 y.body (vk i j) := fun j y hy => ⟨fk i x j y hx hy, Hih.out.2.2 i x j y hx hy⟩
      obtain ⟨na, hna⟩ : ∃ n, n = x.a.args.length := ⟨_, rfl⟩
      obtain ⟨nb, hnb⟩ : ∃ n, n = x.b.args.length := ⟨_, rfl⟩
      obtain ⟨nd, hnd⟩ : ∃ n, n = x.body.length := ⟨_, rfl⟩
      obtain ⟨ne, hne⟩ : ∃ n, n = x.els.length := ⟨_, rfl⟩
      obtain ⟨nc, hnc⟩ : ∃ n, n = x.cases.length := ⟨_, rfl⟩
      rw [hva, hvb, hvd, hve, hvc, ← hna, ← hnb, ← hnd, ← hne, ← hnc] at hst
      rw [hva, ← hna] at fa'
      rw [hvb, ← hnb] at fb'
      rw [hvd, ← hnd] at fd'
      rw [hve, ← hne] at fe'
      rw [hvc, ← hnc] at fc'
      rw [← hnc] at hcc1
      have hnc62 : nc ≤ 9223372036854775807 := by have : maxLen ≤ 9223372036854775807 := by decide
                                                  omega
      have Hy := Lib.hid (And.intro fa' (And.intro fb' (And.intro fd' (And.intro fe' (And.intro fc' fk')))))
      have Hna := Lib.hid (And.intro hna (And.intro hnb hnc))
      have Hx := Lib.hid hx
      have Hg := Lib.hid hg
      have HB2 := Lib.hid hB
      have HC2 := Lib.hid hC
      obtain ⟨kk, hkk⟩ : ∃ kk, kk = upto (k + St.totals (l.take i)) := ⟨_, rfl⟩
      rw [← hkk] at hC HC2
      have Hkk := Lib.hid hkk
      obtain ⟨i0, i1, i2, i3, i4, i5, i6, i7, i8, i9, i10, i11, i12, i13⟩ := hst
      have q0 := block_lt_of_cell i0
      have q1 := hC.lt
      obtain ⟨W1, hW1⟩ : ∃ W1, W1 = Wr.alloc (.cells #[.int .i64 x.kind, .string x.name, .int .i64 x.n, .int .i64 x.a.kind, .int .i64 x.a.n, .string x.a.name, .slice aa na ca, .int .i64 x.b.kind, .int .i64 x.b.n, .string x.b.name, .slice ab nb cb, .slice ad nd cd, .slice ae ne ce, .slice ac nc cc] 56) := ⟨_, rfl⟩
      have hC1 : CAt W1 c kk := by rw [hW1]; exact hC.later ((Below.refl _ _).alloc (Nat.le_refl _) _)
      have hO1 : Oth (· = c) Wr W1 := by rw [hW1]; exact (Oth.refl _ _).alloc _
      have hs1 : W1.heap.size = Wr.heap.size + 1 := by rw [hW1]; simp
      have hv1 : StAt W1 Wr.heap.size 0 x (.slice aa na ca) (.slice ab nb cb) (.slice ad nd cd) (.slice ae ne ce) (.slice ac nc cc) := by rw [hW1]; exact StAt.box _ _ _ _ _ _ _ _
      have H1 := Lib.hid (And.intro hC1 (And.intro hO1 (And.intro hs1 hv1)))
      have HW1 := Lib.hid hW1
      clear hkk hC hB hO hP hx hg hC1 hO1 hs1 hW1 fa fb fd fe fc fk fa' fb' fd' fe' fc' fk' hna hnb hnd hne hnc hva hvb hvd hve hvc hcc1 hv1
      go_wp2_with fail
      rw [← HW1.out]
      refine (full_any c kk _ H1.out.1).mono ?_
      rintro e w1 ⟨rfl, hw1⟩
      rw [← hw1]
      clear hw1
      by_cases hf : 4096 < kk
      · have hq : decide (4096 < kk) = true := decide_eq_true hf
        have Hres : Hid (upto (k + St.totals l) = kk) := by
          show _ = _
          rw [Hkk.out] at hf ⊢
          exact upto_stop (St.totals_le i) hf
        rw [hq]
        clear hf hq
        go_wp2_with fail
        refine bodyPost_ret (results_none rfl _ _ _) rfl ?_
        exact ⟨rfl, by rw [Hres.out]; exact H1.out.1, HO.out.trans H1.out.2.1⟩
      · have hq : decide (4096 < kk) = false := decide_eq_false hf
        have hk2 : kk + 1 ≤ 4097 := by omega
        obtain ⟨W2, hW2⟩ : ∃ W2, W2 = W1.setCell ⟨c, 0, none⟩ (.int .i64 (((kk + 1 : Nat) : Int))) := ⟨_, rfl⟩
        have hC2 : CAt W2 c (kk + 1) := by rw [hW2]; exact H1.out.1.put hk2
        have hO2 : Oth (· = c) W1 W2 := by rw [hW2]; exact (Oth.refl (· = c) W1).set (p := ⟨c, 0, none⟩) rfl _
        have H2 := Lib.hid (And.intro hC2 (H1.out.2.1.trans hO2))
        have hv2 := H1.out.2.2.2.oth hO2 (by rw [H1.out.2.2.1]; omega) (by omega)
        have HS2 := Lib.hid hv2
        have hcell := H1.out.1.cell
        have hfree := H1.out.1.free
        have e1 : Hid ((kk : Int) + 1 = ((kk + 1 : Nat) : Int)) := by show _ = _; omega
        have q3 := H1.out.2.2.1
        have q4 : W2.heap.size = W1.heap.size := by rw [hW2, size_set]
        have HW2 := Lib.hid hW2
        rw [hq]
        clear hW2 hq hC2 hO2 hv2 i0 i1 i2 i3 i4 i5 i6 i7 i8 i9 i10 i11 i12 i13
        go_upto_region 5 with (fail)
        rw [e1.out, ← HW2.out]
        obtain ⟨i0, i1, i2, i3, i4, i5, i6, i7, i8, i9, i10, i11, i12, i13⟩ := HS2.out
        clear hcell hfree
        simp only [Nat.zero_add] at i0 i1 i2 i3 i4 i5 i6 i7 i8 i9 i10 i11 i12 i13
        go_wp2_with fail
        obtain ⟨W3, hW3⟩ : ∃ W3, W3 = W2.alloc (.cells #[.int .i64 x.a.kind, .int .i64 x.a.n, .string x.a.name, .slice aa na ca, .int .i64 x.b.kind, .int .i64 x.b.n, .string x.b.name, .slice ab nb cb] 53) := ⟨_, rfl⟩
        rw [← hW3]
        obtain ⟨D, qD⟩ : ∃ D, D = Wr.heap.size + 1 := ⟨_, rfl⟩
        have hD : D = W2.heap.size := by omega
        rw [← qD]
        have hO3 : Oth (· = c) W2 W3 := by rw [hW3]; exact (Oth.refl _ _).alloc _
        have hs3 : W3.heap.size = D + 1 := by rw [hW3, hD]; simp
        have hea : ExAt W3 D 0 x.a (.slice aa na ca) := by rw [hW3, hD]; constructor <;> exact World.cell?_alloc_at _ _ _ _ rfl
        have heb : ExAt W3 D 4 x.b (.slice ab nb cb) := by rw [hW3, hD]; constructor <;> exact World.cell?_alloc_at _ _ _ _ rfl
        have hst3 := HS2.out.oth hO3 (by omega) (by omega)
        have hC3 : CAt W3 c (kk + 1) := by rw [hW3]; exact H2.out.1.later ((Below.refl _ _).alloc (Nat.le_refl _) _)
        have H3 := Lib.hid (And.intro hC3 (And.intro (H2.out.2.trans hO3) (And.intro hst3 (And.intro hea heb))))
        have q5 : Wr.heap.size < D := by omega
        clear qD hC3 hW3 hD hO3 hea heb hst3 i0 i1 i2 i3 i4 i5 i6 i7 i8 i9 i10 i11 i12 i13 HS2 HW2 e1 q4 q3 H1 HW1 hk2 hf HC2 H2 q0 W1 W2
        go_loopg [31] 2 (fun g jv wx => ∃ j : Nat, g = 2 - j ∧ jv = .int .i64 (j : Int) ∧ j ≤ 2 ∧ CAt wx c (upto (kk + 1 + x.parts j)) ∧ Oth (· = c) W3 wx)
        case atStart => exact ⟨0, rfl, rfl, by omega, by simpa [St.parts, upto_of H3.out.1.le] using H3.out.1, Oth.refl _ _⟩
        case round =>
          obtain ⟨j, hg2, rfl, hj, hC, hO⟩ := hrel
          have HG2 := Lib.hid hg2
          have HOj := Lib.hid hO
          have HCj := Lib.hid hC
          have qs := hO.size
          clear hg2
          by_cases hj2 : j < 2
          · obtain ⟨y, ay, ny, cy, hey, hny, hcy, hpy⟩ : ∃ y ay ny cy, ExAt W3 D (j * 4) y (.slice ay ny cy) ∧ ny = y.args.length ∧ CountsE w0 y.args (.slice ay ny cy) ∧ x.parts (j + 1) = x.parts j + y.part := by
              rcases (by omega : j = 0 ∨ j = 1) with rfl | rfl
              · exact ⟨x.a, aa, na, ca, H3.out.2.2.2.1, Hna.out.1, Hy.out.1, by simp [St.parts]⟩
              · exact ⟨x.b, ab, nb, cb, H3.out.2.2.2.2, Hna.out.2.1, Hy.out.2.1, by simp [St.parts]⟩
            have hwb : Below w0.heap.size w0 wr := HB2.out.trans ((H3.out.2.1.trans hO).below HB2.out.size fun _ e => by omega)
            obtain ⟨i0, i1, i2, i3⟩ := hey.oth hO (by omega) (by omega)
            have hDw : D < wr.heap.size := by omega
            obtain ⟨W4, hW4⟩ : ∃ W4, W4 = wr.alloc (.cells #[.int .i64 y.kind, .int .i64 y.n, .string y.name, .slice ay ny cy] 53) := ⟨_, rfl⟩
            have hb4 : Below wr.heap.size wr W4 := by rw [hW4]; exact (Below.refl _ _).alloc (Nat.le_refl _) _
            have he4 : ExAt W4 wr.heap.size 0 y (.slice ay ny cy) := by rw [hW4]; constructor <;> exact World.cell?_alloc_at _ _ _ _ rfl
            have hs4 : W4.heap.size = wr.heap.size + 1 := by rw [hW4]; simp
            have H4 := Lib.hid (And.intro hb4 (And.intro he4 hs4))
            have HW4 := Lib.hid hW4
            have Hw := Lib.hid (And.intro hwb (And.intro hny (And.intro hcy hpy)))
            clear hb4 he4 hs4 hW4 hwb hny hcy hpy hey hO hC
            go_wp2_with fail
            rw [← HW4.out]
            refine (zero_any y (.slice ay ny cy) ay cy _ (by rw [Hw.out.2.1])).mono ?_
            rintro e w5 ⟨rfl, hb5⟩
            have q6 := hb5.size
            have q7 := H4.out.2.2
            have he5 := H4.out.2.1.later hb5 (by omega)
            have hO5 : Oth (· = c) wr w5 := (Oth.of_below H4.out.1).trans (.of_below hb5)
            have hC5 := HCj.out.later (H4.out.1.trans (hb5.mono (by omega)))
            have H5 := Lib.hid (And.intro he5 (And.intro hO5 hC5))
            obtain ⟨z, hz⟩ : ∃ z, z = y.zero := ⟨_, rfl⟩
            have Hz := Lib.hid hz
            rw [← hz]
            clear hz hb5 he5 hO5 hC5 i0 i1 i2 i3
            cases z
            · obtain ⟨j0, j1, j2, j3⟩ := H5.out.1
              simp only [Nat.zero_add] at j0 j1 j2 j3
              obtain ⟨W6, hW6⟩ : ∃ W6, W6 = w5.alloc (.cells #[.int .i64 y.kind, .int .i64 y.n, .string y.name, .slice ay ny cy] 53) := ⟨_, rfl⟩
              have hb6 : Below w5.heap.size w5 W6 := by rw [hW6]; exact (Below.refl _ _).alloc (Nat.le_refl _) _
              have he6 : ExAt W6 w5.heap.size 0 y (.slice ay ny cy) := by rw [hW6]; constructor <;> exact World.cell?_alloc_at _ _ _ _ rfl
              have hs6 : W6.heap.size = w5.heap.size + 1 := by rw [hW6]; simp
              have H6 := Lib.hid (And.intro hb6 (And.intro he6 hs6))
              have HW6 := Lib.hid hW6
              clear hb6 he6 hs6 hW6
              go_wp2_with fail
              rw [← HW6.out]
              clear j0 j1 j2 j3
              have hO6 : Oth (· = c) wr W6 := H5.out.2.1.trans (.of_below H6.out.1)
              refine (exprs_row [y] _ (fun _ => .slice ay ny cy) W6 c (upto (kk + 1 + x.parts j)) ?_ ?_ ?_ (H5.out.2.2.later H6.out.1)).mono ?_
              · refine ⟨_, _, rfl, Nat.le_refl _, by decide, (by intro h; cases h), fun _ => ⟨_, _, rfl, by rw [H6.out.2.2]; omega, fun i hi => ⟨by omega, fun x hx => ?_⟩⟩⟩
                obtain rfl : i = 0 := by simpa using hi
                cases hx
                simpa using H6.out.2.1
              · intro i x hx
                obtain rfl : i = 0 := by
                  have := (List.getElem?_eq_some_iff.1 hx).1
                  simpa using this
                cases hx
                exact ⟨_, _, by rw [Hw.out.2.1]⟩
              · intro i x hx W' k' hO' hC'
                obtain rfl : i = 0 := by
                  have := (List.getElem?_eq_some_iff.1 hx).1
                  simpa using this
                cases hx
                exact Hw.out.2.2.1 W' c k' (Hw.out.1.trans ((hO6.trans hO').below Hw.out.1.size fun _ e => by omega)) hcb hC'
              · rintro e w7 ⟨rfl, hC7, hO7⟩
                have H7 := Lib.hid (And.intro hC7 (hO6.trans hO7))
                clear hC7 hO7 hO6
                go_wp2_with fail
                go_roundg (2 - (j + 1))
                case measure => have := HG2.out; omega
                case rel => exact ⟨j + 1, rfl, by go_num, hj2, by
                    have h := H7.out.1
                    rw [upto_add] at h
                    have h1 : Ex.totals [y] = y.part := by simp only [Ex.totals, Ex.part, ← Hz.out]; simp
                    rw [h1, Nat.add_assoc, ← Hw.out.2.2.2] at h
                    exact h, HOj.out.trans H7.out.2⟩
            · go_wp2_with fail
              go_roundg (2 - (j + 1))
              case measure => have := HG2.out; omega
              case rel => exact ⟨j + 1, rfl, by go_num, hj2, by
                  rw [Hw.out.2.2.2]
                  have h1 : y.part = 0 := by simp only [Ex.part, ← Hz.out]; simp
                  rw [h1, Nat.add_zero]
                  exact H5.out.2.2, HOj.out.trans H5.out.2.1⟩
          · obtain rfl : j = 2 := by omega
            obtain ⟨V, hV⟩ : ∃ V : World, V = wr := ⟨_, rfl⟩
            subst hV
            have hst4 := H3.out.2.2.1.oth hO (by omega) (by omega)
            have hB4 : Below w0.heap.size w0 V := HB2.out.trans ((H3.out.2.1.trans hO).below HB2.out.size fun _ e => by omega)
            have H4 := Lib.hid (And.intro hst4 (And.intro hB4 (H3.out.2.1.trans hO)))
            obtain ⟨i0, i1, i2, i3, i4, i5, i6, i7, i8, i9, i10, i11, i12, i13⟩ := hst4
            have q6 : Wr.heap.size < V.heap.size := by omega
            clear hj2 hO hC hj hB4
            simp only [Nat.zero_add] at i0 i1 i2 i3 i4 i5 i6 i7 i8 i9 i10 i11 i12 i13
            go_wp2_with fail
            refine (Hy.out.2.2.1 V c _ H4.out.2.1 hcb HCj.out).mono ?_
            rintro e W8 ⟨rfl, hC8, hO8⟩
            rw [upto_add] at hC8
            have hst8 := H4.out.1.oth hO8 q6 (by omega)
            have q8 := hO8.size
            have H8 := Lib.hid (And.intro hst8 (And.intro (H4.out.2.2.trans hO8) hC8))
            have HT : Hid (x.total = 1 + x.parts 2 + St.totals x.body + Cs.totals x.cases + St.totals x.els) := by show _ = _; rw [St.total_eq]; simp only [St.parts]; omega
            clear H4 i0 i1 i2 i3 i4 i5 i6 i7 i8 i9 i10 i11 i12 i13 hO8 hC8 HG2 HOj HCj H3 hs3 qs
            obtain ⟨i0, i1, i2, i3, i4, i5, i6, i7, i8, i9, i10, i11, i12, i13⟩ := hst8
            simp only [Nat.zero_add] at i0 i1 i2 i3 i4 i5 i6 i7 i8 i9 i10 i11 i12 i13
            have q9 : Wr.heap.size < W8.heap.size := by omega
            clear q8 q6 q5
            go_wp2_with fail
            clear i0 i1 i2 i3 i4 i5 i6 i7 i8 i9 i10 i11 i12 i13
            go_loopg [50] nc (fun g jv wx => ∃ j : Nat, g = nc - j ∧ jv = .int .i64 (j : Int) ∧ j ≤ nc ∧ CAt wx c (upto (kk + 1 + x.parts 2 + St.totals x.body + Cs.totals (x.cases.take j))) ∧ Oth (· = c) W8 wx)
            case atStart => exact ⟨0, rfl, rfl, by omega, by simpa [Cs.totals] using H8.out.2.2, Oth.refl _ _⟩
            case round =>
              obtain ⟨j, hg2, rfl, hj, hC, hO⟩ := hrel
              have HG2 := Lib.hid hg2
              have HOj := Lib.hid hO
              have HCj := Lib.hid hC
              have qs := hO.size
              have hw8 : Oth (· = c) Wr wr := H8.out.2.1.trans hO
              have HO8 := Lib.hid hw8
              have hbw : Below w0.heap.size w0 wr := HB2.out.trans (hw8.below HB2.out.size fun _ e => by omega)
              have HBw := Lib.hid hbw
              clear hg2 hw8
              by_cases hj2 : j < nc
              · obtain ⟨y, hy⟩ : ∃ y, x.cases[j]? = some y := ⟨_, List.getElem?_eq_getElem (by rw [← Hna.out.2.2]; exact hj2)⟩
                obtain ⟨bc, oc, rfl, hbc, hPc⟩ := Hy.out.2.2.2.2.1.at (i := j) hj2
                have hcs := (hPc y hy).later hbw hbc
                obtain ⟨hsb, hib⟩ := Hy.out.2.2.2.2.2 j y hy
                obtain ⟨ay, cy, hvy, -⟩ := hsb.form
                obtain ⟨ny, hny⟩ : ∃ n, n = y.body.length := ⟨_, rfl⟩
                rw [hvy, ← hny] at hcs hib
                obtain ⟨i0, i1⟩ := hcs
                obtain ⟨k9, hk9⟩ : ∃ k9, k9 = upto (kk + 1 + x.parts 2 + St.totals x.body + Cs.totals (x.cases.take j)) := ⟨_, rfl⟩
                rw [← hk9] at hC HCj
                have Hk9 := Lib.hid hk9
                have r0 := block_lt_of_cell i0
                have r1 := hC.lt
                obtain ⟨Y1, hY1⟩ : ∃ Y1, Y1 = wr.alloc (.cells #[.int .i64 y.n, .slice ay ny cy] 90) := ⟨_, rfl⟩
                have hC1 : CAt Y1 c k9 := by rw [hY1]; exact hC.later ((Below.refl _ _).alloc (Nat.le_refl _) _)
                have hO1 : Oth (· = c) wr Y1 := by rw [hY1]; exact (Oth.refl _ _).alloc _
                have hs1 : Y1.heap.size = wr.heap.size + 1 := by rw [hY1]; simp
                have hv1 : Y1.cell? ⟨wr.heap.size, 1, none⟩ = some (.slice ay ny cy) := by rw [hY1]; exact World.cell?_alloc_at _ _ _ _ rfl
                have HY1 := Lib.hid hY1
                have HD1 := Lib.hid (And.intro hC1 (And.intro hO1 (And.intro hs1 (And.intro hib hy))))
                clear hk9 hC hO hbw hPc hy hC1 hO1 hs1 hY1 hib hsb hvy hny
                go_wp2_with fail
                rw [← HY1.out]
                refine (full_any c k9 _ HD1.out.1).mono ?_
                rintro e w1 ⟨rfl, hw1⟩
                rw [← hw1]
                clear hw1
                by_cases hf9 : 4096 < k9
                · have hq : decide (4096 < k9) = true := decide_eq_true hf9
                  have Hres : Hid (upto (k + St.totals l) = k9) := by
                    show _ = _
                    have h1 := Hk9.out
                    have h2 := Hkk.out
                    have h3 := St.totals_take Hx.out
                    have h4 := St.totals_le (l := l) (i + 1)
                    have h5 := Cs.totals_le (l := x.cases) j
                    have h6 := HT.out
                    unfold upto at *
                    omega
                  rw [hq]
                  clear hf9 hq
                  go_wp2_with fail
                  refine bodyPost_ret (results_none rfl _ _ _) rfl ?_
                  exact ⟨rfl, by rw [Hres.out]; exact HD1.out.1, HO.out.trans (HO8.out.trans HD1.out.2.1)⟩
                · have hq : decide (4096 < k9) = false := decide_eq_false hf9
                  have hk3 : k9 + 1 ≤ 4097 := by omega
                  obtain ⟨Y2, hY2⟩ : ∃ Y2, Y2 = Y1.setCell ⟨c, 0, none⟩ (.int .i64 (((k9 + 1 : Nat) : Int))) := ⟨_, rfl⟩
                  have hC2 : CAt Y2 c (k9 + 1) := by rw [hY2]; exact HD1.out.1.put hk3
                  have hO2 : Oth (· = c) Y1 Y2 := by rw [hY2]; exact (Oth.refl (· = c) Y1).set (p := ⟨c, 0, none⟩) rfl _
                  have hv2 : Y2.cell? ⟨wr.heap.size, 1, none⟩ = some (.slice ay ny cy) := by rw [hO2.cell (by show wr.heap.size < _; rw [HD1.out.2.2.1]; omega) (by show ¬ wr.heap.size = c; omega)]; exact hv1
                  have H2 := Lib.hid (And.intro hC2 (HD1.out.2.1.trans hO2))
                  have hcell := HD1.out.1.cell
                  have hfree := HD1.out.1.free
                  have e1 : Hid ((k9 : Int) + 1 = ((k9 + 1 : Nat) : Int)) := by show _ = _; omega
                  have q3 := HD1.out.2.2.1
                  have HY2 := Lib.hid hY2
                  rw [hq]
                  clear hY2 hq hC2 hO2 hv1
                  go_upto_region 17 with (fail)
                  rw [e1.out, ← HY2.out]
                  clear hcell hfree i0 i1
                  go_wp2_with fail
                  refine (HD1.out.2.2.2.1 Y2 c (k9 + 1) (HBw.out.trans (H2.out.2.below HBw.out.size fun _ e => by omega)) hcb H2.out.1).mono ?_
                  rintro e w3 ⟨rfl, hC3, hO3⟩
                  have H3 := Lib.hid (And.intro hC3 (H2.out.2.trans hO3))
                  clear hC3 hO3 hv2 
                  go_wp2_with fail
                  go_roundg (nc - (j + 1))
                  case measure => have := HG2.out; omega
                  case rel => exact ⟨j + 1, rfl, by go_num, hj2, by
                      have h := H3.out.1
                      rw [Hk9.out, Nat.add_assoc, upto_add, ← Cs.total_eq, Nat.add_assoc, ← Cs.totals_take HD1.out.2.2.2.2] at h
                      exact h, HOj.out.trans H3.out.2⟩
              · obtain rfl : nc = j := by omega
                obtain ⟨i0, i1, i2, i3, i4, i5, i6, i7, i8, i9, i10, i11, i12, i13⟩ := H8.out.1.oth hO q9 (by omega)
                have hct : x.cases.take nc = x.cases := List.take_of_length_le (by rw [← Hna.out.2.2]; exact Nat.le_refl _)
                rw [hct] at HCj
                clear hj2 hO hC hbw hct
                simp only [Nat.zero_add] at i0 i1 i2 i3 i4 i5 i6 i7 i8 i9 i10 i11 i12 i13
                go_wp2_with fail
                refine (Hy.out.2.2.2.1 wr c _ HBw.out hcb HCj.out).mono ?_
                rintro e w9 ⟨rfl, hC9, hO9⟩
                rw [upto_add] at hC9
                have H9 := Lib.hid (And.intro hC9 (HO.out.trans (HO8.out.trans hO9)))
                clear hC9 hO9 i0 i1 i2 i3 i4 i5 i6 i7 i8 i9 i10 i11 i12 i13
                go_wp2_with fail
                go_roundg (n - (i + 1))
                case measure => have := Hg.out; omega
                case rel => exact ⟨i + 1, rfl, by go_num, hin, by
                    have h := H9.out.1
                    have e : upto (k + St.totals (l.take (i + 1))) = upto (kk + 1 + x.parts 2 + St.totals x.body + Cs.totals x.cases + St.totals x.els) := by
                      rw [St.totals_take Hx.out, HT.out, Hkk.out]
                      unfold upto
                      omega
                    rw [e]
                    exact h, H9.out.2⟩
    · obtain rfl : n = i := by omega
      have Hres : Hid (St.totals (l.take n) = St.totals l) := by show _ = _; rw [List.take_of_length_le (by rw [← Hn.out]; exact Nat.le_refl _)]
      have HC2 := Lib.hid hC
      clear hin hC hO
      go_wp2_with fail
      refine bodyPost_end (results_none rfl _ _ _) rfl ?_
      exact ⟨rfl, by rw [← Hres.out]; exact HC2.out, HO.out⟩
end Go.Proofs.YtgobcldecokppaaDoor
