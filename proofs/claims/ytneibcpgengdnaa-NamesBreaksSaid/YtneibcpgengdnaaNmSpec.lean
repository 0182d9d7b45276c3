/- Which name is used wrongly first. -/
import Derived.Test.YtneibcpgengdnaaNmInts
namespace Go.Proofs.Ytneibcpgengdnaa
open Go.RowKit

/-- What is known, and of which kind: 1 a parameter, 2 a local, 3 an array, 4 a loop's; the newest last. -/
abbrev Known := List (ByteArray × Int)
def kindOf : Known → ByteArray → Int
  | [], _ => 0
  | p :: K, s => if p.1 = s then p.2 else kindOf K s
theorem kindOf_append (K L : Known) (s : ByteArray) (h : ∀ p ∈ K, p.2 ≠ 0) : kindOf (K ++ L) s = if kindOf K s ≠ 0 then kindOf K s else kindOf L s := by
  induction K with
  | nil => simp [kindOf]
  | cons p K ih =>
    simp only [List.cons_append, kindOf]
    by_cases e : p.1 = s
    · simp [e, h p (by simp)]
    · simp only [e, if_false]
      exact ih fun q hq => h q (by simp [hq])
theorem kindOf_zero {K : Known} {s : ByteArray} (h : ∀ p ∈ K, p.2 ≠ 0) : kindOf K s = 0 ↔ s ∉ K.map (·.1) := by
  induction K with
  | nil => simp [kindOf]
  | cons p K ih =>
    simp only [kindOf, List.map_cons, List.mem_cons]
    by_cases e : p.1 = s
    · simp [e, h p (by simp)]
    · simp only [e, if_false]
      rw [ih fun q hq => h q (by simp [hq])]
      constructor
      · rintro h (e2 | h2)
        · exact e e2.symm
        · exact h h2
      · intro h h2; exact h (.inr h2)
def needE (K : Known) (s : ByteArray) (arr : Bool) : Int := if kindOf K s = 0 then 8 else if decide (kindOf K s = 3) ≠ arr then 30 else 0
/-- What is wrong with an expression's own name. -/
def Ex.nown (K : Known) (G : List ByteArray) (x : Ex) : Int := if x.kind = 2 then needE K x.name false else if x.kind = 3 then needE K x.name true else if x.kind = 4 ∧ x.name ∉ G then 8 else 0
mutual
def Ex.nerr (K : Known) (G : List ByteArray) : Ex → Int
  | .mk k n s l => if Ex.nown K G (.mk k n s l) ≠ 0 then Ex.nown K G (.mk k n s l) else Ex.nerrs K G l
def Ex.nerrs (K : Known) (G : List ByteArray) : List Ex → Int
  | [] => 0
  | x :: l => if Ex.nerr K G x ≠ 0 then Ex.nerr K G x else Ex.nerrs K G l
end
theorem Ex.nerr_eq (K : Known) (G : List ByteArray) (x : Ex) : x.nerr K G = if x.nown K G ≠ 0 then x.nown K G else Ex.nerrs K G x.args := by cases x; simp only [Ex.nerr, Ex.args]
theorem Ex.nerrs_stop {K : Known} {G : List ByteArray} {l : List Ex} {i : Nat} {x : Ex} (h : l[i]? = some x) (hn : ∀ j y, j < i → l[j]? = some y → y.nerr K G = 0) (he : x.nerr K G ≠ 0) : Ex.nerrs K G l = x.nerr K G := by
  induction l generalizing i with
  | nil => simp at h
  | cons y l ih =>
    cases i with
    | zero => simp at h; subst h; simp [Ex.nerrs, he]
    | succ i =>
      have h0 := hn 0 y (by omega) rfl
      simp only [Ex.nerrs, h0]
      simpa using ih (by simpa using h) (fun j z hj hz => hn (j + 1) z (by omega) (by simpa using hz))
theorem Ex.nerrs_none {K : Known} {G : List ByteArray} {l : List Ex} (hn : ∀ (j : Nat) y, l[j]? = some y → y.nerr K G = 0) : Ex.nerrs K G l = 0 := by
  induction l with
  | nil => simp [Ex.nerrs]
  | cons y l ih =>
    have h0 := hn 0 y rfl
    simp only [Ex.nerrs, h0]
    simpa using ih (fun j z hz => hn (j + 1) z (by simpa using hz))
mutual
/-- The names that an expression calls. -/
def Ex.ncalls : Ex → List ByteArray
  | .mk k _ s l => (if k = 4 then [s] else []) ++ Ex.ncallss l
def Ex.ncallss : List Ex → List ByteArray
  | [] => []
  | x :: l => Ex.ncalls x ++ Ex.ncallss l
end
theorem Ex.ncalls_eq (x : Ex) : x.ncalls = (if x.kind = 4 then [x.name] else []) ++ Ex.ncallss x.args := by cases x; simp only [Ex.ncalls, Ex.kind, Ex.name, Ex.args]; rfl
theorem Ex.ncallss_snoc (l : List Ex) (x : Ex) : Ex.ncallss (l ++ [x]) = Ex.ncallss l ++ x.ncalls := by
  induction l with
  | nil => simp [Ex.ncallss]
  | cons y l ih => simp only [List.cons_append, Ex.ncallss, ih, List.append_assoc]
theorem Ex.ncallss_take {l : List Ex} {i : Nat} {x : Ex} (h : l[i]? = some x) : Ex.ncallss (l.take (i + 1)) = Ex.ncallss (l.take i) ++ x.ncalls := by rw [take_next h, Ex.ncallss_snoc]
/-- What is wrong with a statement's own names and expressions. -/
def St.nlead (K : Known) (x : St) : Int := if x.kind = 3 then (if needE K x.name false ≠ 0 then needE K x.name false else if kindOf K x.name = 4 then 31 else 0) else if x.kind = 4 then needE K x.name true else 0
def St.nfirst (K : Known) (G : List ByteArray) (loops : Int) (x : St) : Int :=
  if x.kind = 8 then (if loops = 0 then 32 else 0) else if x.kind = 2 then 0 else
  if x.nlead K ≠ 0 then x.nlead K else if x.a.nerr K G ≠ 0 then x.a.nerr K G else if x.kind = 4 ∨ x.kind = 7 then x.b.nerr K G else 0
/-- What a statement makes known behind it. -/
def St.nadd (K : Known) (x : St) : Known := if x.kind = 1 then K ++ [(x.name, 2)] else if x.kind = 2 then K ++ [(x.name, 3)] else K
def kAfter (K : Known) (l : List St) : Known := l.foldl St.nadd K
theorem kAfter_take {K : Known} {l : List St} {i : Nat} {x : St} (h : l[i]? = some x) : kAfter K (l.take (i + 1)) = x.nadd (kAfter K (l.take i)) := by rw [take_next h]; simp [kAfter]
mutual
/-- How many statements are met up to the first that is wrong, and what is wrong. -/
def St.nchk (K : Known) (G : List ByteArray) (loops : Int) : St → Nat × Int
  | .mk k s n a b body els cases => after (1, St.nfirst K G loops (.mk k s n a b body els cases))
      (if k = 7 then (if kindOf K s ≠ 0 then (0, 9) else St.nchks (K ++ [(s, 4)]) G (loops + 1) body)
       else if (k = 1 ∨ k = 2) ∧ kindOf K s ≠ 0 then (0, 9)
       else after (St.nchks (St.nadd K (.mk k s n a b body els cases)) G loops body) (after (Cs.nchks (St.nadd K (.mk k s n a b body els cases)) G loops cases) (St.nchks (St.nadd K (.mk k s n a b body els cases)) G loops els)))
def St.nchks (K : Known) (G : List ByteArray) (loops : Int) : List St → Nat × Int
  | [] => (0, 0)
  | x :: l => after (St.nchk K G loops x) (St.nchks (x.nadd K) G loops l)
def Cs.nchk (K : Known) (G : List ByteArray) (loops : Int) : Cs → Nat × Int
  | .mk _ body => St.nchks K G loops body
def Cs.nchks (K : Known) (G : List ByteArray) (loops : Int) : List Cs → Nat × Int
  | [] => (0, 0)
  | x :: l => after (Cs.nchk K G loops x) (Cs.nchks K G loops l)
end
theorem St.nchk_eq (K : Known) (G : List ByteArray) (loops : Int) (x : St) : x.nchk K G loops = after (1, x.nfirst K G loops)
      (if x.kind = 7 then (if kindOf K x.name ≠ 0 then (0, 9) else St.nchks (K ++ [(x.name, 4)]) G (loops + 1) x.body)
       else if (x.kind = 1 ∨ x.kind = 2) ∧ kindOf K x.name ≠ 0 then (0, 9)
       else after (St.nchks (x.nadd K) G loops x.body) (after (Cs.nchks (x.nadd K) G loops x.cases) (St.nchks (x.nadd K) G loops x.els))) := by cases x; simp only [St.nchk, St.kind, St.name, St.body, St.cases, St.els]; rfl
theorem Cs.nchk_eq (K : Known) (G : List ByteArray) (loops : Int) (x : Cs) : x.nchk K G loops = St.nchks K G loops x.body := by cases x; simp only [Cs.nchk, Cs.body]
theorem St.nchks_append (K : Known) (G : List ByteArray) (loops : Int) (l m : List St) : St.nchks K G loops (l ++ m) = after (St.nchks K G loops l) (St.nchks (kAfter K l) G loops m) := by
  induction l generalizing K with
  | nil => simp only [List.nil_append, St.nchks, zero_after, kAfter, List.foldl_nil]
  | cons y l ih =>
    simp only [List.cons_append, St.nchks, ih, after_assoc]
    rfl
theorem Cs.nchks_append (K : Known) (G : List ByteArray) (loops : Int) (l m : List Cs) : Cs.nchks K G loops (l ++ m) = after (Cs.nchks K G loops l) (Cs.nchks K G loops m) := by
  induction l with
  | nil => simp only [List.nil_append, Cs.nchks, zero_after]
  | cons y l ih => simp only [List.cons_append, Cs.nchks, ih, after_assoc]
theorem St.nchks_next {K : Known} {G : List ByteArray} {loops : Int} {l : List St} {i : Nat} {x : St} (h : l[i]? = some x) : St.nchks K G loops (l.take (i + 1)) = after (St.nchks K G loops (l.take i)) (x.nchk (kAfter K (l.take i)) G loops) := by
  rw [take_next h, St.nchks_append]
  simp only [St.nchks, after_zero]
theorem Cs.nchks_next {K : Known} {G : List ByteArray} {loops : Int} {l : List Cs} {i : Nat} {x : Cs} (h : l[i]? = some x) : Cs.nchks K G loops (l.take (i + 1)) = after (Cs.nchks K G loops (l.take i)) (x.nchk K G loops) := by
  rw [take_next h, Cs.nchks_append]
  simp only [Cs.nchks, after_zero]
/-- Once something is wrong, the rest does not matter. -/
theorem St.nchks_stop {K : Known} {G : List ByteArray} {loops : Int} {l : List St} (i : Nat) (h : (St.nchks K G loops (l.take i)).2 ≠ 0) : St.nchks K G loops l = St.nchks K G loops (l.take i) := by
  conv => lhs; rw [← List.take_append_drop i l]
  rw [St.nchks_append]
  exact if_pos h
theorem Cs.nchks_stop {K : Known} {G : List ByteArray} {loops : Int} {l : List Cs} (i : Nat) (h : (Cs.nchks K G loops (l.take i)).2 ≠ 0) : Cs.nchks K G loops l = Cs.nchks K G loops (l.take i) := by
  conv => lhs; rw [← List.take_append_drop i l]
  rw [Cs.nchks_append]
  exact if_pos h
mutual
/-- The names that a statement calls. -/
def St.ncalls : St → List ByteArray
  | .mk k _ _ a b body els cases => (if k = 8 ∨ k = 2 then [] else a.ncalls) ++ ((if k = 4 ∨ k = 7 then b.ncalls else []) ++ (St.ncallss body ++ (Cs.ncallss cases ++ St.ncallss els)))
def St.ncallss : List St → List ByteArray
  | [] => []
  | x :: l => St.ncalls x ++ St.ncallss l
def Cs.ncalls : Cs → List ByteArray
  | .mk _ body => St.ncallss body
def Cs.ncallss : List Cs → List ByteArray
  | [] => []
  | x :: l => Cs.ncalls x ++ Cs.ncallss l
end
def parK (l : List Pm) : Known := l.map fun x => (x.name, 1)
/-- Has one of the parameters a name that stands ahead of it? -/
def twiceB : List Pm → List ByteArray → Bool
  | [], _ => false
  | x :: l, G => decide (x.name ∈ G) || twiceB l (G ++ [x.name])
/-- What is wrong with function i's names, the functions ahead of it being G. -/
def Fn.nfault (f : Fn) (G : List ByteArray) (i : Nat) : Flt :=
  if f.name ∈ G ∨ twiceB f.params [] = true then (9, (i : Int), 0) else
  if (St.nchks (parK f.params) G 0 f.body).2 ≠ 0 then ((St.nchks (parK f.params) G 0 f.body).2, (i : Int), ((St.nchks (parK f.params) G 0 f.body).1 : Int)) else (0, 0, 0)
def Fn.nfaults : List Fn → List ByteArray → Nat → Flt
  | [], _, _ => (0, 0, 0)
  | f :: l, G, i => if (f.nfault G i).1 ≠ 0 then f.nfault G i else Fn.nfaults l (G ++ [f.name]) (i + 1)
/-- Which name is used wrongly first. -/
def Pg.nfault (p : Pg) : Flt := if p.fault.1 ≠ 0 then p.fault else Fn.nfaults p.funcs [] 0
end Go.Proofs.Ytneibcpgengdnaa
