/- ranges.every: a question asked of an expression and of all that lies in it. -/
import Derived.Test.YtgobcldecokppaaDoorNmFine
import Derived.Test.YtgobcldecokppaaDoorNmFlt
/- Which number may not be first: the plain spec of ranges. -/
namespace Go.Proofs.YtgobcldecokppaaDoor
open Go.RowKit

mutual
/-- A question asked of an expression and of all that lies in it. -/
def Ex.evr (ask : Ex → Bool) : Ex → Bool
  | .mk k n s l => ask (.mk k n s l) && Ex.evrs ask l
def Ex.evrs (ask : Ex → Bool) : List Ex → Bool
  | [] => true
  | x :: l => Ex.evr ask x && Ex.evrs ask l
end
theorem Ex.evr_eq (ask : Ex → Bool) (x : Ex) : x.evr ask = (ask x && Ex.evrs ask x.args) := by cases x; simp only [Ex.evr, Ex.args]
theorem Ex.evrs_append (ask : Ex → Bool) (l m : List Ex) : Ex.evrs ask (l ++ m) = (Ex.evrs ask l && Ex.evrs ask m) := by
  induction l with
  | nil => simp [Ex.evrs]
  | cons x l ih => simp only [List.cons_append, Ex.evrs, ih, Bool.and_assoc]
theorem Ex.evrs_next {ask : Ex → Bool} {l : List Ex} {i : Nat} {x : Ex} (h : l[i]? = some x) : Ex.evrs ask (l.take (i + 1)) = (Ex.evrs ask (l.take i) && x.evr ask) := by
  rw [take_next h, Ex.evrs_append]; simp [Ex.evrs]
theorem Ex.evrs_stop {ask : Ex → Bool} {l : List Ex} {i : Nat} {x : Ex} (h : l[i]? = some x) (hx : x.evr ask = false) : Ex.evrs ask l = false := by
  conv => lhs; rw [← List.take_append_drop (i + 1) l]
  rw [Ex.evrs_append, Ex.evrs_next h, hx]; simp
/-- May an expression stand in a bound, where the names of R may? -/
def bndQ (R : List ByteArray) (x : Ex) : Bool := if x.kind = 2 then decide (x.name ∈ R) else decide (x.kind = 1 ∨ x.kind = 5 ∨ x.kind = 7 ∨ x.kind = 8 ∨ x.kind = 9)
/-- Has a call as many arguments as ar tells? -/
def cntQ (ar : ByteArray → Int) (x : Ex) : Bool := decide (x.kind ≠ 4) || decide ((x.args.length : Int) = ar x.name)
/-- Have two cases one number? -/
def twiceN : List Cs → List Int → Bool
  | [], _ => false
  | c :: l, seen => decide (c.n ∈ seen) || twiceN l (c.n :: seen)
/-- What is wrong with a statement by itself. -/
def St.rown (R : List ByteArray) (ar : ByteArray → Int) (x : St) : Int :=
  if x.kind = 2 ∧ (x.n < 1 ∨ 1024 < x.n) then 1 else if x.kind = 6 ∧ twiceN x.cases [] = true then 9
  else if x.kind = 7 ∧ ¬ (x.a.evr (bndQ R) = true ∧ x.b.evr (bndQ R) = true) then 42
  else if x.a.evr (cntQ ar) = true ∧ x.b.evr (cntQ ar) = true then 0 else 41
def St.radd (R : List ByteArray) (x : St) : List ByteArray := if x.kind = 7 then R ++ [x.name] else R
mutual
/-- How many statements are met up to the first that is wrong, and what is wrong. -/
def St.rchk (R : List ByteArray) (ar : ByteArray → Int) : St → Nat × Int
  | .mk k s n a b body els cases => after (1, St.rown R ar (.mk k s n a b body els cases))
      (after (St.rchks (if k = 7 then R ++ [s] else R) ar body) (after (Cs.rchks (if k = 7 then R ++ [s] else R) ar cases) (St.rchks (if k = 7 then R ++ [s] else R) ar els)))
def St.rchks (R : List ByteArray) (ar : ByteArray → Int) : List St → Nat × Int
  | [] => (0, 0)
  | x :: l => after (St.rchk R ar x) (St.rchks R ar l)
def Cs.rchk (R : List ByteArray) (ar : ByteArray → Int) : Cs → Nat × Int
  | .mk _ body => St.rchks R ar body
def Cs.rchks (R : List ByteArray) (ar : ByteArray → Int) : List Cs → Nat × Int
  | [] => (0, 0)
  | x :: l => after (Cs.rchk R ar x) (Cs.rchks R ar l)
end
theorem St.rchk_eq (R : List ByteArray) (ar : ByteArray → Int) (x : St) : x.rchk R ar = after (1, x.rown R ar) (after (St.rchks (x.radd R) ar x.body) (after (Cs.rchks (x.radd R) ar x.cases) (St.rchks (x.radd R) ar x.els))) := by
  cases x; simp only [St.rchk, St.radd, St.kind, St.name, St.body, St.cases, St.els]; rfl
theorem Cs.rchk_eq (R : List ByteArray) (ar : ByteArray → Int) (x : Cs) : x.rchk R ar = St.rchks R ar x.body := by cases x; simp only [Cs.rchk, Cs.body]
theorem St.rchks_append (R : List ByteArray) (ar : ByteArray → Int) (l m : List St) : St.rchks R ar (l ++ m) = after (St.rchks R ar l) (St.rchks R ar m) := by
  induction l with
  | nil => simp only [List.nil_append, St.rchks, zero_after]
  | cons y l ih => simp only [List.cons_append, St.rchks, ih, after_assoc]
theorem Cs.rchks_append (R : List ByteArray) (ar : ByteArray → Int) (l m : List Cs) : Cs.rchks R ar (l ++ m) = after (Cs.rchks R ar l) (Cs.rchks R ar m) := by
  induction l with
  | nil => simp only [List.nil_append, Cs.rchks, zero_after]
  | cons y l ih => simp only [List.cons_append, Cs.rchks, ih, after_assoc]
theorem St.rchks_next {R : List ByteArray} {ar : ByteArray → Int} {l : List St} {i : Nat} {x : St} (h : l[i]? = some x) : St.rchks R ar (l.take (i + 1)) = after (St.rchks R ar (l.take i)) (x.rchk R ar) := by
  rw [take_next h, St.rchks_append]; simp only [St.rchks, after_zero]
theorem Cs.rchks_next {R : List ByteArray} {ar : ByteArray → Int} {l : List Cs} {i : Nat} {x : Cs} (h : l[i]? = some x) : Cs.rchks R ar (l.take (i + 1)) = after (Cs.rchks R ar (l.take i)) (x.rchk R ar) := by
  rw [take_next h, Cs.rchks_append]; simp only [Cs.rchks, after_zero]
/-- Once something is wrong, the rest does not matter. -/
theorem St.rchks_stop {R : List ByteArray} {ar : ByteArray → Int} {l : List St} (i : Nat) (h : (St.rchks R ar (l.take i)).2 ≠ 0) : St.rchks R ar l = St.rchks R ar (l.take i) := by
  conv => lhs; rw [← List.take_append_drop i l]
  rw [St.rchks_append]
  exact if_pos h
theorem Cs.rchks_stop {R : List ByteArray} {ar : ByteArray → Int} {l : List Cs} (i : Nat) (h : (Cs.rchks R ar (l.take i)).2 ≠ 0) : Cs.rchks R ar l = Cs.rchks R ar (l.take i) := by
  conv => lhs; rw [← List.take_append_drop i l]
  rw [Cs.rchks_append]
  exact if_pos h
/-- One step and, where it does not leave off, what follows. -/
def goOn {σ : Type} (r : σ × Bool) (k : σ → σ × Bool) : σ × Bool := if r.2 = true then k r.1 else r
theorem goOn_stop {σ : Type} {r : σ × Bool} (h : r.2 = false) (k : σ → σ × Bool) : goOn r k = r := if_neg (by rw [h]; decide)
theorem goOn_on {σ : Type} {r : σ × Bool} (h : r.2 = true) (k : σ → σ × Bool) : goOn r k = k r.1 := if_pos h
theorem goOn_assoc {σ : Type} (r : σ × Bool) (k m : σ → σ × Bool) : goOn (goOn r k) m = goOn r fun s => goOn (k s) m := by
  unfold goOn
  by_cases h : r.2 = true
  · simp only [if_pos h]
  · simp only [if_neg h]
theorem goOn_end {σ : Type} (r : σ × Bool) : goOn r (fun s => (s, true)) = r := by
  unfold goOn
  split
  · rename_i h; exact Prod.ext rfl h.symm
  · rfl
mutual
/-- visitor.over, with a state: ahead of what lies in a statement (it may leave off), and behind its own. -/
def St.ovr {σ : Type} (st : σ → St → Int → σ × Bool) (lv : σ → St → σ) (n : Int) : St → σ → σ × Bool
  | .mk k nm num a b body els cases, s =>
    goOn (st s (.mk k nm num a b body els cases) n) fun s1 => goOn (St.ovrs st lv (if k = 7 then n + 1 else n) body s1) fun s2 => goOn (Cs.ovrs st lv n cases s2) fun s3 =>
      goOn (St.ovrs st lv n els s3) fun s4 => (lv s4 (.mk k nm num a b body els cases), true)
def St.ovrs {σ : Type} (st : σ → St → Int → σ × Bool) (lv : σ → St → σ) (n : Int) : List St → σ → σ × Bool
  | [], s => (s, true)
  | x :: l, s => goOn (St.ovr st lv n x s) fun s1 => St.ovrs st lv n l s1
def Cs.ovr {σ : Type} (st : σ → St → Int → σ × Bool) (lv : σ → St → σ) (n : Int) : Cs → σ → σ × Bool
  | .mk _ body, s => St.ovrs st lv n body s
def Cs.ovrs {σ : Type} (st : σ → St → Int → σ × Bool) (lv : σ → St → σ) (n : Int) : List Cs → σ → σ × Bool
  | [], s => (s, true)
  | x :: l, s => goOn (Cs.ovr st lv n x s) fun s1 => Cs.ovrs st lv n l s1
end
section
variable {σ : Type} {st : σ → St → Int → σ × Bool} {lv : σ → St → σ} {n : Int}
theorem St.ovr_eq (x : St) (s : σ) : x.ovr st lv n s = goOn (st s x n) fun s1 => goOn (St.ovrs st lv (if x.kind = 7 then n + 1 else n) x.body s1) fun s2 => goOn (Cs.ovrs st lv n x.cases s2) fun s3 =>
      goOn (St.ovrs st lv n x.els s3) fun s4 => (lv s4 x, true) := by
  cases x; simp only [St.ovr, St.kind, St.body, St.cases, St.els]; rfl
theorem Cs.ovr_eq (x : Cs) (s : σ) : x.ovr st lv n s = St.ovrs st lv n x.body s := by cases x; simp only [Cs.ovr, Cs.body]
theorem St.ovrs_append (l m : List St) (s : σ) : St.ovrs st lv n (l ++ m) s = goOn (St.ovrs st lv n l s) (St.ovrs st lv n m) := by
  induction l generalizing s with
  | nil => simp only [List.nil_append, St.ovrs]; rfl
  | cons y l ih => simp only [List.cons_append, St.ovrs, goOn_assoc, ih]
theorem Cs.ovrs_append (l m : List Cs) (s : σ) : Cs.ovrs st lv n (l ++ m) s = goOn (Cs.ovrs st lv n l s) (Cs.ovrs st lv n m) := by
  induction l generalizing s with
  | nil => simp only [List.nil_append, Cs.ovrs]; rfl
  | cons y l ih => simp only [List.cons_append, Cs.ovrs, goOn_assoc, ih]
theorem St.ovrs_next {l : List St} {i : Nat} {x : St} (h : l[i]? = some x) (s : σ) : St.ovrs st lv n (l.take (i + 1)) s = goOn (St.ovrs st lv n (l.take i) s) (x.ovr st lv n) := by
  rw [take_next h, St.ovrs_append]; congr 1; funext s1; simp only [St.ovrs, goOn_end]
theorem Cs.ovrs_next {l : List Cs} {i : Nat} {x : Cs} (h : l[i]? = some x) (s : σ) : Cs.ovrs st lv n (l.take (i + 1)) s = goOn (Cs.ovrs st lv n (l.take i) s) (x.ovr st lv n) := by
  rw [take_next h, Cs.ovrs_append]; congr 1; funext s1; simp only [Cs.ovrs, goOn_end]
theorem St.ovrs_stop {l : List St} (i : Nat) {s : σ} (h : (St.ovrs st lv n (l.take i) s).2 = false) : St.ovrs st lv n l s = St.ovrs st lv n (l.take i) s := by
  conv => lhs; rw [← List.take_append_drop i l]
  rw [St.ovrs_append, goOn_stop h]
theorem Cs.ovrs_stop {l : List Cs} (i : Nat) {s : σ} (h : (Cs.ovrs st lv n (l.take i) s).2 = false) : Cs.ovrs st lv n l s = Cs.ovrs st lv n (l.take i) s := by
  conv => lhs; rw [← List.take_append_drop i l]
  rw [Cs.ovrs_append, goOn_stop h]
end
/-- How many parameters the function of a name has. -/
def arOf (l : List Fn) (s : ByteArray) : Int :=
  match l.find? (fun f => decide (f.name = s)) with
  | some f => f.params.length
  | none => 0
def emptyB (l : List Pm) : Bool := l.any fun x => decide (x.hi < x.lo)
/-- Which number of function i may not be first, F being the functions ahead. -/
def Fn.rfault (f : Fn) (F : List Fn) (i : Nat) : Flt :=
  if emptyB f.params = true then (40, (i : Int), 0) else
  if (St.rchks (f.params.map (·.name)) (arOf F) f.body).2 ≠ 0 then ((St.rchks (f.params.map (·.name)) (arOf F) f.body).2, (i : Int), ((St.rchks (f.params.map (·.name)) (arOf F) f.body).1 : Int)) else (0, 0, 0)
/-- The functions are looked at in a row: F those ahead. -/
def Fn.rfaults : List Fn → List Fn → Nat → Flt
  | _, [], _ => (0, 0, 0)
  | F, f :: l, i => if (f.rfault F i).1 ≠ 0 then f.rfault F i else Fn.rfaults (F ++ [f]) l (i + 1)
/-- ranges.Check. -/
def Pg.rfault (p : Pg) : Flt := if p.nfault.1 ≠ 0 then p.nfault else Fn.rfaults [] p.funcs 0
theorem Fn.rfaults_hit {F l : List Fn} {i k : Nat} {x : Fn} (h : l[i]? = some x) (hn : ∀ j y, j < i → l[j]? = some y → (y.rfault (F ++ l.take j) (k + j)).1 = 0) (he : (x.rfault (F ++ l.take i) (k + i)).1 ≠ 0) : Fn.rfaults F l k = x.rfault (F ++ l.take i) (k + i) := by
  induction l generalizing i k F with
  | nil => simp at h
  | cons y l ih =>
    cases i with
    | zero => simp at h; subst h; simp only [Fn.rfaults, List.take_zero, List.append_nil, Nat.add_zero] at he ⊢; exact if_pos he
    | succ i =>
      have h0 := hn 0 y (by omega) rfl
      simp only [List.take_zero, List.append_nil, Nat.add_zero] at h0
      have e : ∀ j, F ++ (y :: l).take (j + 1) = F ++ [y] ++ l.take j := fun j => by simp
      simp only [Fn.rfaults]
      have := ih (i := i) (k := k + 1) (F := F ++ [y]) (by simpa using h) (fun j z hj hz => by rw [← e, Nat.add_assoc, Nat.add_comm 1 j]; exact hn (j + 1) z (by omega) (by simpa using hz)) (by rw [← e, Nat.add_assoc, Nat.add_comm 1 i]; exact he)
      rw [if_neg (by rw [h0]; decide), this, ← e, Nat.add_assoc, Nat.add_comm 1 i]
theorem Fn.rfaults_none {F l : List Fn} {k : Nat} (hn : ∀ (j : Nat) y, l[j]? = some y → (y.rfault (F ++ l.take j) (k + j)).1 = 0) : Fn.rfaults F l k = (0, 0, 0) := by
  induction l generalizing k F with
  | nil => rfl
  | cons y l ih =>
    have h0 := hn 0 y rfl
    simp only [List.take_zero, List.append_nil, Nat.add_zero] at h0
    have e : ∀ j, F ++ (y :: l).take (j + 1) = F ++ [y] ++ l.take j := fun j => by simp
    simp only [Fn.rfaults]
    rw [if_neg (by rw [h0]; decide)]
    exact ih fun j z hz => by rw [← e, Nat.add_assoc, Nat.add_comm 1 j]; exact hn (j + 1) z (by simpa using hz)
/-- Either no function is wrong, or one is first. -/
theorem Fn.rfaults_cases (F l : List Fn) (k : Nat) : (∀ (j : Nat) y, l[j]? = some y → (y.rfault (F ++ l.take j) (k + j)).1 = 0) ∨ ∃ (i : Nat) (x : Fn), l[i]? = some x ∧ (∀ j y, j < i → l[j]? = some y → (y.rfault (F ++ l.take j) (k + j)).1 = 0) ∧ (x.rfault (F ++ l.take i) (k + i)).1 ≠ 0 := by
  induction l generalizing k F with
  | nil => exact .inl fun j y h => by simp at h
  | cons y l ih =>
    have e : ∀ j, F ++ (y :: l).take (j + 1) = F ++ [y] ++ l.take j := fun j => by simp
    by_cases h0 : (y.rfault F k).1 = 0
    · rcases ih (F ++ [y]) (k + 1) with h | ⟨i, x, hx, hn, he⟩
      · refine .inl fun j z hz => ?_
        cases j with
        | zero => simp at hz; subst hz; simpa using h0
        | succ j => rw [e, ← Nat.add_assoc, Nat.add_right_comm]; exact h j z (by simpa using hz)
      · refine .inr ⟨i + 1, x, by simpa using hx, fun j z hj hz => ?_, by rw [e, ← Nat.add_assoc, Nat.add_right_comm]; exact he⟩
        cases j with
        | zero => simp at hz; subst hz; simpa using h0
        | succ j => rw [e, ← Nat.add_assoc, Nat.add_right_comm]; exact hn j z (by omega) (by simpa using hz)
    · exact .inr ⟨0, y, rfl, fun j z hj => by omega, by simpa using h0⟩
/-- Straight on: the questions of an expression, of a bound, of a function by itself. -/
def plainQ (x : Ex) : Bool := decide (x.name = ⟨#[]⟩)
def stillQ (x : Ex) : Bool := decide (x.kind < 18)
def keepsQ (s : ByteArray) (u : Unit) (y : St) (_ : Int) : Unit × Bool := (u, decide (y.kind ≠ 3 ∨ y.name ≠ s))
def upperB (f : Fn) (x : Ex) : Bool := decide (x.kind = 2) && (f.params.any (fun y => decide (y.name = x.name)) && (St.ovrs (keepsQ x.name) (fun u _ => u) 0 f.body ()).2)
def aloneQ (f : Fn) (params : Bool) (u : Unit) (x : St) (n : Int) : Unit × Bool :=
  (u, !(decide (x.kind = 5 ∨ x.kind = 6 ∨ x.kind = 8)) && (!(decide (x.kind = 9 ∧ 0 < n)) && ((decide (x.kind ≠ 7) || (x.a.evr plainQ && (x.b.evr plainQ || (params && upperB f x.b)))) && (x.a.evr stillQ && x.b.evr stillQ))))
def Fn.alone (f : Fn) (params : Bool) : Bool := (St.ovrs (aloneQ f params) (fun u _ => u) 0 f.body ()).2
end Go.Proofs.YtgobcldecokppaaDoor

/- ranges.Check's look at the statements, as a fold. -/
namespace Go.Proofs.YtgobcldecokppaaDoor
open Go.RowKit

/-- The state: the names that may stand in a bound, the statements met, what is wrong. -/
abbrev ChkS := List ByteArray × Nat × Int
def chkQ (ar : ByteArray → Int) (s : ChkS) (x : St) (_ : Int) : ChkS × Bool := if x.rown s.1 ar = 0 then ((x.radd s.1, s.2.1 + 1, 0), true) else ((s.1, s.2.1 + 1, x.rown s.1 ar), false)
def chkL (s : ChkS) (x : St) : ChkS := if x.kind = 7 then (s.1.filter (fun y => decide (y ≠ x.name)), s.2.1, s.2.2) else s
def ChkRes (R : List ByteArray) (m : Nat) (c : Nat × Int) (r : ChkS × Bool) : Prop := ∃ R', r = ((R', m + c.1, c.2), decide (c.2 = 0)) ∧ (c.2 = 0 → R' = R)
theorem ChkRes.on {R R2 : List ByteArray} {m : Nat} {c d : Nat × Int} {r : ChkS × Bool} {k : ChkS → ChkS × Bool} (h : ChkRes R m c r) (h2 : c.2 = 0 → ChkRes R2 (m + c.1) d (k (R, m + c.1, 0))) : ChkRes R2 m (after c d) (goOn r k) := by
  obtain ⟨R', rfl, h1⟩ := h
  by_cases hc : c.2 = 0
  · obtain ⟨R3, e, h3⟩ := h2 hc
    rw [goOn_on (by simpa using hc)]
    have ea : after c d = (c.1 + d.1, d.2) := by unfold after; rw [if_neg (by simpa using hc)]
    rw [ea]
    refine ⟨R3, ?_, h3⟩
    show k (R', m + c.1, c.2) = _
    rw [h1 hc, hc, e, Nat.add_assoc]
  · rw [goOn_stop (by simpa using hc)]
    have ea : after c d = c := by unfold after; rw [if_pos hc]
    rw [ea]
    exact ⟨R', rfl, fun h => absurd h hc⟩
theorem chkQ_res (ar : ByteArray → Int) (R : List ByteArray) (m : Nat) (x : St) (n : Int) : ChkRes (x.radd R) m (1, x.rown R ar) (chkQ ar (R, m, 0) x n) := by
  unfold chkQ
  by_cases h : x.rown R ar = 0
  · rw [if_pos h]; exact ⟨_, by rw [h]; simp, fun _ => rfl⟩
  · rw [if_neg h]; exact ⟨R, by simp [h], fun e => absurd e h⟩
theorem chkL_res (R : List ByteArray) (m : Nat) (x : St) (hf : x.kind = 7 → x.name ∉ R) : ChkRes R m (0, 0) (chkL (x.radd R, m, 0) x, true) := by
  unfold chkL St.radd
  by_cases h : x.kind = 7
  · rw [if_pos h, if_pos h]
    refine ⟨_, rfl, fun _ => ?_⟩
    show List.filter _ (R ++ [x.name]) = R
    rw [List.filter_append, List.filter_eq_self.2 (fun y (hy : y ∈ R) => decide_eq_true (p := y ≠ x.name) fun e => hf h (by rw [← e]; exact hy))]
    simp
  · rw [if_neg h, if_neg h]; exact ⟨_, rfl, fun _ => rfl⟩
theorem kindOf_mono {K L : Known} {s : ByteArray} (h : kindOf K s ≠ 0) : kindOf (K ++ L) s ≠ 0 := by
  induction K with
  | nil => exact absurd rfl h
  | cons p K ih =>
    simp only [List.cons_append, kindOf] at h ⊢
    split
    · rename_i e; rw [if_pos e] at h; exact h
    · rename_i e; rw [if_neg e] at h; exact ih h
theorem kindOf_nadd {K : Known} {x : St} {s : ByteArray} (h : kindOf K s ≠ 0) : kindOf (x.nadd K) s ≠ 0 := by
  unfold St.nadd
  split
  · exact kindOf_mono h
  split
  · exact kindOf_mono h
  · exact h
theorem kindOf_snoc {K : Known} {s : ByteArray} {k : Int} (hk : k ≠ 0) (h : kindOf K s = 0) (ha : ∀ p ∈ K, p.2 ≠ 0) : kindOf (K ++ [(s, k)]) s ≠ 0 := by
  rw [kindOf_append _ _ _ ha, h]; simp [kindOf, hk]
/-- The names that may stand in a bound are known. -/
structure RIn (K : Known) (R : List ByteArray) : Prop where
  known : ∀ s ∈ R, kindOf K s ≠ 0
  good : ∀ p ∈ K, p.2 ≠ 0
theorem RIn.nadd {K : Known} {R : List ByteArray} (h : RIn K R) (x : St) : RIn (x.nadd K) R := by
  refine ⟨fun s hs => kindOf_nadd (h.known s hs), ?_⟩
  unfold St.nadd
  split
  · intro p hp; rcases List.mem_append.1 hp with hp | hp
    · exact h.good p hp
    · simp at hp; subst hp; simp
  split
  · intro p hp; rcases List.mem_append.1 hp with hp | hp
    · exact h.good p hp
    · simp at hp; subst hp; simp
  · exact h.good
theorem RIn.loop {K : Known} {R : List ByteArray} (h : RIn K R) {s : ByteArray} (hs : kindOf K s = 0) : RIn (K ++ [(s, 4)]) (R ++ [s]) := by
  refine ⟨fun t ht => ?_, fun p hp => ?_⟩
  · rcases List.mem_append.1 ht with ht | ht
    · exact kindOf_mono (h.known t ht)
    · simp at ht; subst ht; exact kindOf_snoc (by decide) hs h.good
  · rcases List.mem_append.1 hp with hp | hp
    · exact h.good p hp
    · simp at hp; subst hp; simp
theorem St.nchk_parts {K : Known} {G : List ByteArray} {loops : Int} {x : St} (hf : x.fine) (h : (x.nchk K G loops).2 = 0) {R : List ByteArray} (hR : RIn K R) :
    ∃ K' L', RIn K' (x.radd R) ∧ (St.nchks K' G L' x.body).2 = 0 ∧ (Cs.nchks K' G L' x.cases).2 = 0 ∧ (St.nchks K' G L' x.els).2 = 0 ∧ (x.kind = 7 → x.name ∉ R) := by
  rw [St.nchk_eq] at h
  have h2 := (after_two h).2
  by_cases hk : x.kind = 7
  · rw [if_pos hk] at h2
    have hfr : kindOf K x.name = 0 := by
      by_cases e : kindOf K x.name = 0
      · exact e
      · rw [if_pos e] at h2; exact absurd h2 (by decide)
    rw [if_neg (by rw [hfr]; decide)] at h2
    have hfm := (St.formed_parts (St.own_formed ((St.fine_eq x).1 hf).1).1)
    have he : x.els = [] := by rcases hfm.2.2.2.2.2.1 with e | e
                               · rw [hk] at e; exact absurd e (by decide)
                               · exact e
    have hc : x.cases = [] := by rcases hfm.2.2.2.2.2.2 with e | e
                                 · rw [hk] at e; exact absurd e (by decide)
                                 · exact e
    refine ⟨K ++ [(x.name, 4)], loops + 1, ?_, h2, by rw [hc]; rfl, by rw [he]; rfl, fun _ hs => hR.known _ hs hfr⟩
    unfold St.radd
    rw [if_pos hk]
    exact hR.loop hfr
  · rw [if_neg hk] at h2
    have h3 : ¬ ((x.kind = 1 ∨ x.kind = 2) ∧ kindOf K x.name ≠ 0) := fun e => by rw [if_pos e] at h2; exact absurd h2 (by decide)
    rw [if_neg h3] at h2
    obtain ⟨h4, h5⟩ := after_two h2
    obtain ⟨h6, h7⟩ := after_two h5
    refine ⟨x.nadd K, loops, ?_, h4, h6, h7, fun e => absurd e hk⟩
    unfold St.radd
    rw [if_neg hk]
    exact hR.nadd x
mutual
theorem St.ovr_chk (ar : ByteArray → Int) (G : List ByteArray) : ∀ (x : St) (n : Int) (R : List ByteArray) (m : Nat) (K : Known) (loops : Int), RIn K R → x.fine → (x.nchk K G loops).2 = 0 → ChkRes R m (x.rchk R ar) (x.ovr (chkQ ar) chkL n (R, m, 0))
  | .mk k s num a b body els cases, n, R, m, K, loops, hR, hf, hok => by
    obtain ⟨K', L', h1, h2, h3, h4, h5⟩ := St.nchk_parts hf hok hR
    obtain ⟨_, _, _, f1, f2, f3⟩ := (St.fine_eq _).1 hf
    have e4 : ∀ M, ChkRes R M (after (St.rchks (St.radd R (.mk k s num a b body els cases)) ar els) (0, 0)) (goOn (St.ovrs (chkQ ar) chkL n els (St.radd R (.mk k s num a b body els cases), M, 0)) fun s4 => (chkL s4 (.mk k s num a b body els cases), true)) :=
      fun M => (St.ovrs_chk ar G els n _ M K' L' h1 f3 h4).on fun _ => chkL_res R _ (.mk k s num a b body els cases) h5
    simp only [after_zero] at e4
    rw [St.ovr_eq, St.rchk_eq]
    refine (chkQ_res ar R m _ n).on fun _ => ?_
    refine (St.ovrs_chk ar G body _ _ _ K' L' h1 f1 h2).on fun _ => ?_
    refine (Cs.ovrs_chk ar G cases _ _ _ K' L' h1 f2 h3).on fun _ => ?_
    exact e4 _
theorem St.ovrs_chk (ar : ByteArray → Int) (G : List ByteArray) : ∀ (l : List St) (n : Int) (R : List ByteArray) (m : Nat) (K : Known) (loops : Int), RIn K R → St.fines l → (St.nchks K G loops l).2 = 0 → ChkRes R m (St.rchks R ar l) (St.ovrs (chkQ ar) chkL n l (R, m, 0))
  | [], _, R, m, _, _, _, _, _ => by simp only [St.rchks, St.ovrs]; exact ⟨R, rfl, fun _ => rfl⟩
  | x :: l, n, R, m, K, loops, hR, hf, hok => by
    simp only [St.nchks] at hok
    obtain ⟨h1, h2⟩ := after_two hok
    simp only [St.fines] at hf
    simp only [St.rchks, St.ovrs]; exact (St.ovr_chk ar G x n R m K loops hR hf.1 h1).on fun _ => St.ovrs_chk ar G l n R _ _ loops (hR.nadd x) hf.2 h2
theorem Cs.ovr_chk (ar : ByteArray → Int) (G : List ByteArray) : ∀ (x : Cs) (n : Int) (R : List ByteArray) (m : Nat) (K : Known) (loops : Int), RIn K R → x.fine → (x.nchk K G loops).2 = 0 → ChkRes R m (x.rchk R ar) (x.ovr (chkQ ar) chkL n (R, m, 0))
  | .mk _ body, n, R, m, K, loops, hR, hf, hok => by
    simp only [Cs.nchk] at hok
    simp only [Cs.fine] at hf
    simp only [Cs.rchk, Cs.ovr]; exact St.ovrs_chk ar G body n R m K loops hR hf hok
theorem Cs.ovrs_chk (ar : ByteArray → Int) (G : List ByteArray) : ∀ (l : List Cs) (n : Int) (R : List ByteArray) (m : Nat) (K : Known) (loops : Int), RIn K R → Cs.fines l → (Cs.nchks K G loops l).2 = 0 → ChkRes R m (Cs.rchks R ar l) (Cs.ovrs (chkQ ar) chkL n l (R, m, 0))
  | [], _, R, m, _, _, _, _, _ => by simp only [Cs.rchks, Cs.ovrs]; exact ⟨R, rfl, fun _ => rfl⟩
  | x :: l, n, R, m, K, loops, hR, hf, hok => by
    simp only [Cs.nchks] at hok
    obtain ⟨h1, h2⟩ := after_two hok
    simp only [Cs.fines] at hf
    simp only [Cs.rchks, Cs.ovrs]; exact (Cs.ovr_chk ar G x n R m K loops hR hf.1 h1).on fun _ => Cs.ovrs_chk ar G l n R _ K loops hR hf.2 h2
end
theorem parK_in (l : List Pm) : RIn (parK l) (l.map (·.name)) := by
  have hg : ∀ p ∈ parK l, p.2 ≠ 0 := fun p hp => by unfold parK at hp; obtain ⟨x, _, rfl⟩ := List.mem_map.1 hp; exact fun h => by cases h
  refine ⟨fun s hs => fun e => (kindOf_zero hg).1 e ?_, hg⟩
  unfold parK
  rw [List.map_map]
  exact hs
/-- The look at a function's body, where its names are right. -/
theorem Fn.chk_body {f : Fn} (ar : ByteArray → Int) {G : List ByteArray} (hf : St.fines f.body) (hn : (St.nchks (parK f.params) G 0 f.body).2 = 0) :
    ∃ R', St.ovrs (chkQ ar) chkL 0 f.body (f.params.map (·.name), 0, 0) = ((R', (St.rchks (f.params.map (·.name)) ar f.body).1, (St.rchks (f.params.map (·.name)) ar f.body).2), decide ((St.rchks (f.params.map (·.name)) ar f.body).2 = 0)) := by
  obtain ⟨R', h, _⟩ := St.ovrs_chk ar G f.body 0 _ 0 _ 0 (parK_in f.params) hf hn
  exact ⟨R', by rw [h, Nat.zero_add]⟩
end Go.Proofs.YtgobcldecokppaaDoor

/- Maps of numbers to numbers, with what they hold: laws for the walk. -/
namespace Go.Proofs.YtgobcldecokppaaDoor
open Go.RowKit Go.Maps

/-- Block b of w is a map of numbers (of key type kt) to numbers: its keys S, its numbers F (0 where there is none). -/
def IMap (kt : TypeId) (w : World) (b : Nat) (S : List Int) (F : Int → Int) : Prop :=
  ∃ D : DataW Unit, w.ownsMap Tryd.prog kt numD b S.length D ∧ S.Nodup ∧ Maps.size D = S.length ∧ (∀ kl, Maps.has D kl = true ↔ ∃ x ∈ S, kl = .int .i64 x) ∧ ∀ y, D.atKey (.int .i64 y) (.lit (.int .i64 0)) = .lit (.int .i64 (F y))
theorem IMap.made (kt : TypeId) (w : World) : IMap kt (w.alloc (.map #[] 0)) w.heap.size [] (fun _ => 0) :=
  ⟨.map [], World.ownsMap_made w _ _ _, List.nodup_nil, rfl, fun kl => by simp [Maps.has], fun _ => rfl⟩
theorem IMap.lt {kt : TypeId} {w : World} {b : Nat} {S : List Int} {F : Int → Int} (h : IMap kt w b S F) : b < w.heap.size := by obtain ⟨D, h, _⟩ := h; exact h.lt
theorem IMap.at_block {kt : TypeId} {w w' : World} {b : Nat} {S : List Int} {F : Int → Int} (h : IMap kt w b S F) (hb : w'.heap[b]? = w.heap[b]?) : IMap kt w' b S F := by
  obtain ⟨D, ⟨es, clock, hh, r2⟩, r⟩ := h
  exact ⟨D, ⟨es, clock, hb.trans hh, r2⟩, r⟩
theorem IMap.later {kt : TypeId} {w w' : World} {b B : Nat} {S : List Int} {F : Int → Int} (h : IMap kt w b S F) (hb : Below B w w') (hB : b < B) : IMap kt w' b S F := h.at_block (hb.block b hB)
theorem IMap.oth {kt : TypeId} {T : Nat → Prop} {w w' : World} {b : Nat} {S : List Int} {F : Int → Int} (h : IMap kt w b S F) (hO : Oth T w w') (hb : ¬ T b) : IMap kt w' b S F := h.at_block (hO.block b h.lt hb)

section
set_option maxRecDepth 100000
/-- The same lookup where a guard asks for it. -/
theorem sm_look_g {w : World} {ops : Array Oper} {rest : List Oper} {o : Oper} {a : Act} {Q : Exit → Act → World → Prop} {t e : TypeId} (ht : Tryd.prog.underlying t = some (.map 9 e)) (hz0 : (zeroValue e).run Tryd.prog w = .ok (.int .i64 0) w) (hg : Region.wanted o (yielded ops a.tmps) = true) (m x : Operand) (hop : o.op = Op.lookup t m x false) (b : Nat) (S : List ByteArray) (F : ByteArray → Int) (hm : a.eval m = .map (some b)) (hown : SMap w b S F) (y : ByteArray) (hx : a.eval x = .string y)
    (hs : y.size ≤ maxLen) (z : Int) (hz : F y = z) (hK : wpList Tryd.prog ops Q rest (a.put o.dst (.int .i64 z)) w) : wpList Tryd.prog ops Q (o :: rest) a w := by
  obtain ⟨D, h, _, _, _, hF⟩ := hown
  refine wpList_step fun K' hK' => ?_
  rw [if_pos hg]
  obtain ⟨v, ps, hrun, hv⟩ := h.lookup Tryd.strKey ht (z := .int .i64 0) hz0 (zd := .lit (.int .i64 0)) (zp := []) rfl (WideMaps.keyOf_string_mk Tryd.underlying9 hs)
  have hv : numD v = some (D.atKey (keyS y) (.lit (.int .i64 0)), ps) := hv
  rw [hF y, hz] at hv
  have e := numD_inv hv
  subst e
  unfold Oper.wp
  simp [execOp, hop, hm, hx, hrun, Result.andThen]
  exact hK' _ _ hK
variable {w : World} {ops : Array Oper} {rest : List Oper} {o : Oper} {a : Act} {Q : Exit → Act → World → Prop} {kt : TypeId}
theorem im_look (hu : Tryd.prog.underlying kt = some (.int .i64)) {t e : TypeId} (ht : Tryd.prog.underlying t = some (.map kt e)) (hz0 : (zeroValue e).run Tryd.prog w = .ok (.int .i64 0) w) (hg : o.guard = none) (m x : Operand) (hop : o.op = Op.lookup t m x false) (b : Nat) (S : List Int) (F : Int → Int) (hm : a.eval m = .map (some b)) (hown : IMap kt w b S F) (y : Int) (hx : a.eval x = .int .i64 y)
    (hw : -9223372036854775808 ≤ y ∧ y ≤ 9223372036854775807) (z : Int) (hz : F y = z) (hK : wpList Tryd.prog ops Q rest (a.put o.dst (.int .i64 z)) w) : wpList Tryd.prog ops Q (o :: rest) a w := by
  obtain ⟨D, h, _, _, _, hF⟩ := hown
  refine wpList_plain hg fun K' hK' => ?_
  obtain ⟨v, ps, hrun, hv⟩ := h.lookup (int_keyed hu) ht (z := .int .i64 0) hz0 (zd := .lit (.int .i64 0)) (zp := []) rfl (keyOf_int_mk hu (WalkArith.wf_i64 hw))
  rw [hF y, hz] at hv
  have e := numD_inv hv
  subst e
  unfold Oper.wp
  simp [execOp, hop, hm, hx, hrun, Result.andThen]
  exact hK' _ _ hK
theorem IMap.put_at {kt : TypeId} (hu : Tryd.prog.underlying kt = some (.int .i64)) {w w' : World} {b : Nat} {S : List Int} {F : Int → Int} {D : DataW Unit} {y z : Int} (h : w.ownsMap Tryd.prog kt numD b S.length D) (hn : S.Nodup) (hs : Maps.size D = S.length) (hh : ∀ kl, Maps.has D kl = true ↔ ∃ x ∈ S, kl = .int .i64 x) (hF : ∀ y, D.atKey (.int .i64 y) (.lit (.int .i64 0)) = .lit (.int .i64 (F y)))
    (h1 : w'.ownsMap Tryd.prog kt numD b (S.length + 1) (D.put (.int .i64 y) (.lit (.int .i64 z)))) : IMap kt w' b (insI S y) (fun i => if i = y then z else F i) := by
  have hsz : Maps.size (D.put (.int .i64 y) (.lit (.int .i64 z))) = (insI S y).length := by
    rw [size_put (h.tidy (int_keyed hu)), hs]
    unfold insI
    by_cases hy : y ∈ S
    · rw [if_pos ((hh _).2 ⟨y, hy, rfl⟩), if_pos hy]
    · rw [if_neg (fun h => hy (by obtain ⟨z, hz, e⟩ := (hh _).1 h; cases e; exact hz)), if_neg hy]; rfl
  refine ⟨D.put (.int .i64 y) (.lit (.int .i64 z)), by rw [← hsz]; exact owns_tight h1, insI_nodup hn y, hsz, fun kl => ?_, fun u => ?_⟩
  · rw [hasI_put h.isMap, hh]
    constructor
    · rintro (rfl | ⟨x, hx, rfl⟩)
      · exact ⟨y, (insI_mem _ _ _).2 (.inl rfl), rfl⟩
      · exact ⟨x, (insI_mem _ _ _).2 (.inr hx), rfl⟩
    · rintro ⟨x, hx, rfl⟩
      rcases (insI_mem _ _ _).1 hx with rfl | hx
      · exact .inl rfl
      · exact .inr ⟨x, hx, rfl⟩
  · by_cases e : u = y
    · subst e; simp only [if_true]; exact atKey_put_same h.isMap (isKeyI _) _ _
    · simp only [if_neg e]; rw [atKey_put_other (by intro e1; cases e1; exact e rfl)]; exact hF u
theorem im_put (hu : Tryd.prog.underlying kt = some (.int .i64)) {t e : TypeId} (ht : Tryd.prog.underlying t = some (.map kt e)) (hg : o.guard = none) (m x v : Operand) (hop : o.op = Op.mapUpdate t m x v) (b : Nat) (S : List Int) (F : Int → Int) (hm : a.eval m = .map (some b)) (hown : IMap kt w b S F) (y : Int) (hx : a.eval x = .int .i64 y) (z : Int) (hv : a.eval v = .int .i64 z)
    (hy : -9223372036854775808 ≤ y ∧ y ≤ 9223372036854775807) (hl : S.length ≤ 1000000) (hK : ∀ w', IMap kt w' b (insI S y) (fun i => if i = y then z else F i) → w.grownBy w' (some b) → wpList Tryd.prog ops Q rest (a.put o.dst undef) w') : wpList Tryd.prog ops Q (o :: rest) a w := by
  obtain ⟨D, h, hn, hs, hh, hF⟩ := hown
  refine wpList_mapUpdate_own w hg m x v _ hop kt e (int_keyed hu) ht _ b _ D hm h (by unfold maxLen; omega) _ _ _ hx hv (keyOf_int_mk hu (WalkArith.wf_i64 hy)) (.lit (.int .i64 z)) [] rfl ?_
  intro w' h1 h2
  exact hK w' (IMap.put_at hu h hn hs hh hF h1) h2
theorem im_insert (hu : Tryd.prog.underlying kt = some (.int .i64)) {t e : TypeId} (ht : Tryd.prog.underlying t = some (.map kt e)) (hg : o.guard = none) (m x v : Operand) (hop : o.op = Op.insert t m x v) (b : Nat) (S : List Int) (F : Int → Int) (hm : a.eval m = .map (some b)) (hown : IMap kt w b S F) (y : Int) (hx : a.eval x = .int .i64 y) (z : Int) (hv : a.eval v = .int .i64 z)
    (hy : -9223372036854775808 ≤ y ∧ y ≤ 9223372036854775807) (hl : S.length ≤ 1000000) (hK : ∀ w', IMap kt w' b (insI S y) (fun i => if i = y then z else F i) → w.grownBy w' (some b) → wpList Tryd.prog ops Q rest (a.put o.dst undef) w') : wpList Tryd.prog ops Q (o :: rest) a w := by
  obtain ⟨D, h, hn, hs, hh, hF⟩ := hown
  refine wpList_plain hg fun K' hK' => ?_
  obtain ⟨w', hrun, h1, h2⟩ := h.update (int_keyed hu) ht (by unfold maxLen; omega) (key := .int .i64 y) (kl := .int .i64 y) (keyOf_int_mk hu (WalkArith.wf_i64 hy)) (val := .int .i64 z) (d := .lit (.int .i64 z)) (ps := []) rfl
  unfold Oper.wp
  simp [execOp, hop, hm, hx, hv, hrun, Result.andThen]
  exact hK' _ _ (hK w' (IMap.put_at hu h hn hs hh hF h1) h2)
end
end Go.Proofs.YtgobcldecokppaaDoor

namespace Go.Proofs.YtgobcldecokppaaDoor
open Go.RowKit Go.Maps

/-- A function that has a body is entered. -/
theorem enters {P : Program} {f : FuncId} {fn : Func} {c : Code} (hf : P.funcs[f]? = some fn) (hname : (fn.name == "runtime.NumGoroutine") = false) (hb : fn.body = some c) (args : Array Value) (w : World) : (callFunc f args).run P w = .ok (.enter f args) w := by
  have h1 : fn.name ≠ "runtime.NumGoroutine" := by simpa using hname
  simp [callFunc, hf, h1, hb]
/-- A function value that answers a question of an expression, and writes nothing that was there. -/
structure Asks (k : FuncId) (caps : Array Value) (I : World → Prop) (ask : Ex → Bool) : Prop where
  enter : ∀ args w, (callFunc k args).run Tryd.prog w = .ok (.enter k args) w
  stab : ∀ V V', I V → Below V.heap.size V V' → I V'
  call : ∀ V x a cap, I V → x.short → x.args.length ≤ cap → cap ≤ maxLen → Calls Tryd.prog k (#[exVal x (.slice a x.args.length cap)] ++ caps) V (Gives (.bool (ask x)) V)
theorem ExAt.boxed (w : World) (x : Ex) (v : Value) (t : TypeId) : ExAt (w.alloc (.cells #[.int .i64 x.kind, .int .i64 x.n, .string x.name, v] t)) w.heap.size 0 x v := by
  constructor <;> exact World.cell?_alloc_at _ _ _ _ rfl
set_option maxRecDepth 100000 in
set_option maxHeartbeats 2000000 in
theorem every_any (k : FuncId) (caps : Array Value) (I : World → Prop) (ask : Ex → Bool) (HA : Asks k caps I ask) (w0 : World) (l : List Ex) (v : Value) (h : ExsIn w0 l v) :
    ∀ x : Ex, x.args = l → x.short → ∀ W, Below w0.heap.size w0 W → I W → Calls Tryd.prog 28 #[exVal x v, .func (.func k) #[] caps] W (Gives (.bool (x.evr ask)) W) := by
  induction h with
  | mk l v vs h each ih =>
  intro x hxl hsh W hB hI
  obtain ⟨a, cap, rfl, hncap, hcap⟩ := h.form
  obtain ⟨n, hn⟩ : ∃ n, n = l.length := ⟨_, rfl⟩
  have Hn := Lib.hid hn
  have HA := Lib.hid HA
  have Hrow : Hid (RowOf w0 (.slice a n cap) l.length 4 (fun b o i => ∀ x, l[i]? = some x → ExAt w0 b o x (vs i))) := by rw [hn]; exact h
  have hshl := ((Ex.short_eq x).1 hsh).2
  rw [hxl] at hshl
  have Hih : Hid (∀ (i : Nat) y, l[i]? = some y → y.short ∧ (∃ a cap, vs i = .slice a y.args.length cap ∧ y.args.length ≤ cap ∧ cap ≤ maxLen) ∧ ∀ W, Below w0.heap.size w0 W → I W → Calls Tryd.prog 28 #[exVal y (vs i), .func (.func k) #[] caps] W (Gives (.bool (y.evr ask)) W)) :=
    fun i y hy => ⟨Ex.shorts_at hshl hy, (each i y hy).form, ih i y hy y rfl (Ex.shorts_at hshl hy)⟩
  have hask := HA.out.call
  have Hask : Hid (∀ V, I V → Calls Tryd.prog k (#[exVal x (.slice a n cap)] ++ caps) V (Gives (.bool (ask x)) V)) := fun V hV => by
    have := hask V x a cap hV hsh (by rw [hxl]; exact hncap) hcap
    rw [hxl, ← hn] at this
    exact this
  have Hevr : Hid (x.evr ask = (ask x && Ex.evrs ask l)) := by show _ = _; rw [Ex.evr_eq, hxl]
  have HB := Lib.hid hB
  rw [← hn]
  rw [← hn] at hncap
  have hn62 : n ≤ 9223372036854775807 := by have : maxLen ≤ 9223372036854775807 := by decide
                                            omega
  obtain ⟨r, hr⟩ : ∃ r, r = x.evr ask := ⟨_, rfl⟩
  rw [← hr]
  have Hr := Lib.hid hr
  obtain ⟨W1, hW1⟩ : ∃ W1, W1 = W.alloc (.cells #[.int .i64 x.kind, .int .i64 x.n, .string x.name, .slice a n cap] 53) := ⟨_, rfl⟩
  have hb1 : Below W.heap.size W W1 := by rw [hW1]; exact (Below.refl _ _).alloc (Nat.le_refl _) _
  have hx1 : ExAt W1 W.heap.size 0 x (.slice a n cap) := by rw [hW1]; exact ExAt.boxed _ _ _ _
  have hI1 := HA.out.stab _ _ hI hb1
  obtain ⟨B, hBe⟩ : ∃ B, B = W.heap.size := ⟨_, rfl⟩
  rw [← hBe] at hx1
  have hBW : B < W1.heap.size := by rw [hW1, hBe]; simp
  have HW1 := Lib.hid (And.intro hW1 hBe)
  have H1 := Lib.hid (And.intro hb1 (And.intro hI1 hx1))
  clear h each ih hask hshl hn hr hxl hsh hB hI hb1 hI1 hW1 hBe
  unfold exVal
  go_enter Tryd.func28, Tryd.ntmps28
  go_upto_region 1 with (fail)
  rw [← HW1.out.1, ← HW1.out.2]
  obtain ⟨c0, c1, c2, c3⟩ := hx1
  have Hcall := Lib.hid (Hask.out W1 H1.out.2.1)
  unfold exVal at Hcall
  go_wp2_with fail
  rw [HA.out.enter]
  show Calls _ _ _ _ _
  refine Hcall.out.mono ?_
  rintro e w2 ⟨rfl, hb2⟩
  obtain ⟨z, hz⟩ : ∃ z, z = ask x := ⟨_, rfl⟩
  have Hz := Lib.hid hz
  rw [← hz]
  have hx2 := H1.out.2.2.later hb2 hBW
  have hb02 := H1.out.1.trans (hb2.mono H1.out.1.size)
  have H2 := Lib.hid (And.intro hb02 (And.intro (HA.out.stab _ _ H1.out.2.1 hb2) hx2))
  have q2 : B < w2.heap.size := Nat.lt_of_lt_of_le hBW hb2.size
  clear hz hb2 hb02 c0 c1 c2 c3 hx2 Hcall
  cases z
  · have Hf : Hid (r = false) := by show _ = _; rw [Hr.out, Hevr.out, ← Hz.out]; rfl
    go_wp2_with fail
    go_ret
    exact ⟨by rw [Hf.out]; try rfl, H2.out.1⟩
  · obtain ⟨c0, c1, c2, c3⟩ := H2.out.2.2
    have Hf : Hid (r = Ex.evrs ask l) := by show _ = _; rw [Hr.out, Hevr.out, ← Hz.out]; rfl
    go_wp2_with fail
    clear c0 c1 c2 c3
    go_loopg [14] n (fun g iv wx => ∃ i : Nat, g = n - i ∧ iv = .int .i64 (i : Int) ∧ i ≤ n ∧ Ex.evrs ask (l.take i) = true ∧ Below W.heap.size W wx ∧ I wx)
    case atStart => exact ⟨0, rfl, rfl, Nat.zero_le _, rfl, H2.out.1, H2.out.2.1⟩
    case round =>
      obtain ⟨i, hg, rfl, hi, hp, hO, hIw⟩ := hrel
      have HK := Lib.hid (And.intro hp (And.intro hO hIw))
      have Hg := Lib.hid hg
      clear hp hg hIw
      by_cases hin : i < n
      · obtain ⟨y, hy⟩ : ∃ y, l[i]? = some y := ⟨_, List.getElem?_eq_getElem (by rw [← Hn.out]; exact hin)⟩
        obtain ⟨b, off, rfl, hb, hP⟩ := Hrow.out.at (i := i) (by rw [← Hn.out]; exact hin)
        have hbw : Below w0.heap.size w0 wr := HB.out.trans (hO.mono HB.out.size)
        have hex := (hP y hy).later hbw hb
        obtain ⟨hys, ⟨a', cap', hv, hm1, hm2⟩, hcall⟩ := Hih.out i y hy
        rw [hv] at hex hcall
        obtain ⟨m, hm⟩ : ∃ m, m = y.args.length := ⟨_, rfl⟩
        rw [← hm] at hex hcall
        obtain ⟨i0, i1, i2, i3⟩ := hex
        obtain ⟨W5, hW5⟩ : ∃ W5, W5 = wr.alloc (.cells #[.int .i64 y.kind, .int .i64 y.n, .string y.name, .slice a' m cap'] 53) := ⟨_, rfl⟩
        have hb5 : Below wr.heap.size wr W5 := by rw [hW5]; exact (Below.refl _ _).alloc (Nat.le_refl _) _
        have hb05 : Below W.heap.size W W5 := hO.trans (hb5.mono hO.size)
        have hI5 := HA.out.stab _ _ HK.out.2.2 hb5
        have Hcall := Lib.hid (hcall W5 (HB.out.trans (hb05.mono HB.out.size)) hI5)
        unfold exVal at Hcall
        have H5 := Lib.hid (And.intro hb05 hI5)
        have hx5 : ExAt W5 wr.heap.size 0 y (.slice a' m cap') := by rw [hW5]; exact ExAt.boxed _ _ _ _
        have Hy := Lib.hid hy
        have HW5 := Lib.hid hW5
        clear hy hP hv hO hm hbw hb5 hb05 hI5 hcall hW5 hys hm1 hm2
        go_upto_region 6 with (fail)
        rw [← HW5.out]
        obtain ⟨d0, d1, d2, d3⟩ := hx5
        clear i0 i1 i2 i3
        go_wp2_with fail
        refine Hcall.out.mono ?_
        rintro e w6 ⟨rfl, hb6⟩
        obtain ⟨z, hz⟩ : ∃ z, z = y.evr ask := ⟨_, rfl⟩
        have Hz := Lib.hid hz
        rw [← hz]
        have Hb6 := Lib.hid (And.intro (H5.out.1.trans (hb6.mono H5.out.1.size)) (HA.out.stab _ _ H5.out.2 hb6))
        clear hz hb6 d0 d1 d2 d3 Hcall
        cases z
        · have Hff : Hid (r = false) := by show _ = _; rw [Hf.out, Ex.evrs_stop Hy.out Hz.out.symm]
          go_wp2_with fail
          go_ret
          exact ⟨by rw [Hff.out]; try rfl, Hb6.out.1⟩
        · go_wp2_with fail
          go_roundg (n - (i + 1))
          case measure => have := Hg.out; omega
          case rel => exact ⟨i + 1, rfl, by go_num, hin, by rw [Ex.evrs_next Hy.out, HK.out.1, ← Hz.out]; rfl, Hb6.out.1, Hb6.out.2⟩
      · obtain rfl : n = i := by omega
        have Hres : Hid (r = true) := by
          show _ = _
          have h := HK.out.1
          rw [List.take_of_length_le (by rw [← Hn.out]; exact Nat.le_refl _)] at h
          rw [Hf.out, h]
        clear hO hin
        go_wp2_with fail
        go_ret
        exact ⟨by rw [Hres.out]; try rfl, HK.out.2.1⟩
end Go.Proofs.YtgobcldecokppaaDoor
