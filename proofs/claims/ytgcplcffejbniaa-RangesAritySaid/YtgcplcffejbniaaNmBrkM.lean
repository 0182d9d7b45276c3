/- names: a body with one more statement, in memory. -/
import Derived.Test.YtgcplcffejbniaaNmWith
import Derived.Test.YtgcplcffejbniaaNmAwake
import Derived.Deep.RegionHeld3
import Derived.IntWalk
/- names: one more statement behind a body: the plain law. -/
namespace Go.Proofs.Ytgcplcffejbniaa
open Go.RowKit Go.Maps

mutual
/-- How many statements there are. -/
def St.num : St → Nat
  | .mk _ _ _ _ _ body els cases => 1 + St.nums body + St.nums els + Cs.nums cases
def St.nums : List St → Nat
  | [] => 0
  | x :: l => St.num x + St.nums l
def Cs.num : Cs → Nat
  | .mk _ body => St.nums body
def Cs.nums : List Cs → Nat
  | [] => 0
  | x :: l => Cs.num x + Cs.nums l
end
theorem St.num_eq (x : St) : x.num = 1 + St.nums x.body + St.nums x.els + Cs.nums x.cases := by cases x; rfl
theorem Cs.num_eq (x : Cs) : x.num = St.nums x.body := by cases x; rfl
theorem St.nums_snoc (l : List St) (x : St) : St.nums (l ++ [x]) = St.nums l + x.num := by
  induction l with
  | nil => simp [St.nums]
  | cons y l ih => simp only [List.cons_append, St.nums, ih]; omega
theorem Cs.nums_snoc (l : List Cs) (x : Cs) : Cs.nums (l ++ [x]) = Cs.nums l + x.num := by
  induction l with
  | nil => simp [Cs.nums]
  | cons y l ih => simp only [List.cons_append, Cs.nums, ih]; omega
theorem St.nums_take {l : List St} {i : Nat} {x : St} (h : l[i]? = some x) : St.nums (l.take (i + 1)) = St.nums (l.take i) + x.num := by rw [take_next h, St.nums_snoc]
theorem Cs.nums_take {l : List Cs} {i : Nat} {x : Cs} (h : l[i]? = some x) : Cs.nums (l.take (i + 1)) = Cs.nums (l.take i) + x.num := by rw [take_next h, Cs.nums_snoc]
mutual
theorem St.num_le : ∀ x : St, x.num ≤ x.total
  | .mk k s n a b body els cases => by
    have h1 := St.nums_le body
    have h2 := St.nums_le els
    have h3 := Cs.nums_le cases
    simp only [St.num, St.total]; omega
theorem St.nums_le : ∀ l : List St, St.nums l ≤ St.totals l
  | [] => Nat.le_refl _
  | x :: l => by
    have h1 := St.num_le x
    have h2 := St.nums_le l
    simp only [St.nums, St.totals]; omega
theorem Cs.num_le : ∀ x : Cs, x.num ≤ x.total
  | .mk n body => by
    have h1 := St.nums_le body
    simp only [Cs.num, Cs.total]; omega
theorem Cs.nums_le : ∀ l : List Cs, Cs.nums l ≤ Cs.totals l
  | [] => Nat.le_refl _
  | x :: l => by
    have h1 := Cs.num_le x
    have h2 := Cs.nums_le l
    simp only [Cs.nums, Cs.totals]; omega
end
theorem after_one {r q : Nat × Int} (h : (after r q).2 = 0) : (after r q).1 = r.1 + q.1 := by
  have h0 := (after_two h).1
  unfold after
  rw [if_neg (by rw [h0]; decide)]
/-- A loop has nothing but its body. -/
theorem St.fine_for {x : St} (h : x.fine) (hk : x.kind = 7) : x.els = [] ∧ x.cases = [] := by
  have hf := (St.own_formed ((St.fine_eq x).1 h).1).1
  unfold St.formed cntElse cntCases at hf
  rw [hk] at hf
  simp at hf
  exact ⟨by simpa using hf.1.2, by simpa using hf.2⟩
mutual
theorem St.nchk_num (K : Known) (G : List ByteArray) (loops : Int) : ∀ (x : St), x.fine → (x.nchk K G loops).2 = 0 → (x.nchk K G loops).1 = x.num
  | .mk k s n a b body els cases, hf, h => by
    have hp := (St.fine_eq _).1 hf
    simp only [St.body, St.els, St.cases] at hp
    have hfor := St.fine_for hf
    simp only [St.els, St.cases] at hfor
    rw [St.nchk_eq] at h ⊢
    rw [after_one h]
    have h2 := (after_two h).2
    by_cases hk : (St.mk k s n a b body els cases).kind = 7
    · rw [if_pos hk] at h2 ⊢
      obtain ⟨rfl, rfl⟩ := hfor hk
      by_cases hz : kindOf K (St.mk k s n a b body [] []).name = 0
      · rw [if_neg (by simpa using hz)] at h2 ⊢
        simp only [St.body] at h2 ⊢
        rw [St.nchks_num _ _ _ body hp.2.2.2.1 h2]
        simp only [St.num, St.nums, Cs.nums]; omega
      · rw [if_pos hz] at h2; simp at h2
    · rw [if_neg hk] at h2 ⊢
      by_cases hz : ((St.mk k s n a b body els cases).kind = 1 ∨ (St.mk k s n a b body els cases).kind = 2) ∧ kindOf K (St.mk k s n a b body els cases).name ≠ 0
      · rw [if_pos hz] at h2; simp at h2
      · rw [if_neg hz] at h2 ⊢
        simp only [St.body, St.cases, St.els] at h2 ⊢
        rw [after_one h2, after_one (after_two h2).2, St.nchks_num _ _ _ body hp.2.2.2.1 (after_two h2).1, Cs.nchks_num _ _ _ cases hp.2.2.2.2.1 (after_two (after_two h2).2).1, St.nchks_num _ _ _ els hp.2.2.2.2.2 (after_two (after_two h2).2).2]
        simp only [St.num]; omega
theorem St.nchks_num (K : Known) (G : List ByteArray) (loops : Int) : ∀ (l : List St), St.fines l → (St.nchks K G loops l).2 = 0 → (St.nchks K G loops l).1 = St.nums l
  | [], _, _ => rfl
  | x :: l, hf, h => by
    simp only [St.fines] at hf
    simp only [St.nchks] at h ⊢
    rw [after_one h, St.nchk_num _ _ _ x hf.1 (after_two h).1, St.nchks_num _ _ _ l hf.2 (after_two h).2]
    rfl
theorem Cs.nchk_num (K : Known) (G : List ByteArray) (loops : Int) : ∀ (x : Cs), x.fine → (x.nchk K G loops).2 = 0 → (x.nchk K G loops).1 = x.num
  | .mk n body, hf, h => by
    have hp := (Cs.fine_eq _).1 hf
    simp only [Cs.body] at hp
    rw [Cs.nchk_eq] at h ⊢
    simp only [Cs.body, Cs.num] at h ⊢
    exact St.nchks_num _ _ _ body hp h
theorem Cs.nchks_num (K : Known) (G : List ByteArray) (loops : Int) : ∀ (l : List Cs), Cs.fines l → (Cs.nchks K G loops l).2 = 0 → (Cs.nchks K G loops l).1 = Cs.nums l
  | [], _, _ => rfl
  | x :: l, hf, h => by
    simp only [Cs.fines] at hf
    simp only [Cs.nchks] at h ⊢
    rw [after_one h, Cs.nchk_num _ _ _ x hf.1 (after_two h).1, Cs.nchks_num _ _ _ l hf.2 (after_two h).2]
    rfl
end
/-- Behind a form that is right, one more statement is right or one too much. -/
theorem brk_fault {p : Pg} {n : Nat} {f : Fn} (hf : p.funcs[n]? = some f) (x : St) (hx : (x.chk 1).2 = 0) (h1 : p.fault.1 = 0) : (p.withBody n (f.body ++ [x])).fault.1 = 3 ∨ (p.withBody n (f.body ++ [x])).fault = (0, 0, 0) := by
  unfold Pg.fault at h1 ⊢
  by_cases h0 : p.headErr = 0
  · rw [if_neg (by rw [h0]; decide)] at h1
    have hh : (p.withBody n (f.body ++ [x])).headErr = 0 ∨ (p.withBody n (f.body ++ [x])).headErr = 3 := by
      unfold Pg.headErr at h0 ⊢
      show (if 16 < p.widen.length then (3 : Int) else if leastB p.widen = true then 1 else if riseB p.widen = false then 66 else _) = 0 ∨ (if 16 < p.widen.length then (3 : Int) else if leastB p.widen = true then 1 else if riseB p.widen = false then 66 else _) = 3
      split at h0
      · omega
      rename_i a1
      split at h0
      · omega
      rename_i a2
      split at h0
      · omega
      rename_i a3
      rw [if_neg a1, if_neg a2, if_neg a3]
      split
      · exact .inr rfl
      · exact .inl rfl
    rcases hh with hh | hh
    · refine .inr ?_
      rw [if_neg (by rw [hh]; decide)]
      refine Fn.faults_none fun j y hy => ?_
      by_cases e : j = n
      · subst e
        rw [Pg.withBody_at hf] at hy
        cases hy
        have h3 := Fn.faults_all h1 j f hf
        unfold Fn.fault at h3 ⊢
        show (if f.face ≠ 0 then _ else if (St.chks (f.body ++ [x]) 1).2 ≠ 0 then _ else ((0, 0, 0) : Flt)).1 = 0
        by_cases hf0 : f.face = 0
        · rw [if_neg (by rw [hf0]; decide)] at h3 ⊢
          by_cases hc : (St.chks f.body 1).2 = 0
          · have e2 : (St.chks (f.body ++ [x]) 1).2 = 0 := by
              rw [St.chks_snoc]
              unfold after
              rw [if_neg (by rw [hc]; decide)]
              exact hx
            rw [if_neg (by rw [e2]; decide)]
          · rw [if_pos hc] at h3; exact absurd h3 hc
        · rw [if_pos hf0] at h3; exact absurd h3 hf0
      · rw [Pg.withBody_ne p e] at hy
        exact Fn.faults_all h1 j y hy
    · refine .inl ?_
      rw [if_pos (by rw [hh]; decide), hh]
  · rw [if_pos h0] at h1; exact absurd h1 h0
/-- One more statement that is wrong by itself: it is told by its number. -/
theorem brk_nfault {p : Pg} {n : Nat} {f : Fn} (hf : p.funcs[n]? = some f) (x : St) (h1 : p.fault.1 = 0) (h : p.nfault.1 = 0) (h2 : (p.withBody n (f.body ++ [x])).fault.1 = 0) (e : Int) (he : x.nchk (kAfter (parK f.params) f.body) (gAt p.funcs n) 0 = (1, e)) :
    (p.withBody n (f.body ++ [x])).nfault = if e = 0 then (0, 0, 0) else (e, (n : Int), (St.nums f.body : Int) + 1) := by
  have hr := Fn.right (Pg.nfault_all h1 h n f hf)
  have hfin := ((Pg.good h1).2 n f hf).body
  have hn := St.nchks_num _ _ _ f.body hfin hr.2.2
  have hq : St.nchks (parK f.params) (gAt p.funcs n) 0 (f.body ++ [x]) = (St.nums f.body + 1, e) := by
    rw [St.nchks_append]
    simp only [St.nchks, after_zero]
    rw [he]
    unfold after
    rw [if_neg (by rw [hr.2.2]; decide), hn]
  have hs : (f.withBody (f.body ++ [x])).nfault (gAt p.funcs n) n = if e = 0 then (0, 0, 0) else (e, (n : Int), (St.nums f.body : Int) + 1) := by
    unfold Fn.nfault
    show (if f.name ∈ gAt p.funcs n ∨ twiceB f.params [] = true then _ else if (St.nchks (parK f.params) (gAt p.funcs n) 0 (f.body ++ [x])).2 ≠ 0 then ((St.nchks (parK f.params) (gAt p.funcs n) 0 (f.body ++ [x])).2, (n : Int), ((St.nchks (parK f.params) (gAt p.funcs n) 0 (f.body ++ [x])).1 : Int)) else ((0, 0, 0) : Flt)) = _
    rw [if_neg (by rintro (h | h); exact hr.1 h; rw [hr.2.1] at h; cases h), hq]
    by_cases h0 : e = 0
    · rw [if_pos h0, if_neg (by simpa using h0)]
    · rw [if_neg h0, if_pos (by simpa using h0)]
      refine Prod.ext rfl (Prod.ext rfl ?_)
      show ((St.nums f.body + 1 : Nat) : Int) = (St.nums f.body : Int) + 1
      omega
  rw [Pg.nfault_ok h2]
  have others : ∀ (j : Nat) y, j ≠ n → (p.withBody n (f.body ++ [x])).funcs[j]? = some y → (y.nfault ([] ++ gAt (p.withBody n (f.body ++ [x])).funcs j) (0 + j)).1 = 0 := fun j y hne hy => by
    rw [Pg.withBody_ne p hne] at hy
    rw [Pg.withBody_names]
    simpa using Pg.nfault_all h1 h j y hy
  by_cases h0 : e = 0
  · rw [if_pos h0] at hs ⊢
    refine Fn.nfaults_none fun j y hy => ?_
    by_cases hne : j = n
    · subst hne
      rw [Pg.withBody_at hf] at hy
      cases hy
      rw [Pg.withBody_names]
      simp only [List.nil_append, Nat.zero_add, hs]
    · exact others j y hne hy
  · rw [if_neg h0] at hs ⊢
    have hy := Pg.withBody_at hf (f.body ++ [x])
    rw [Fn.nfaults_hit hy (fun j y hj hy => others j y (by omega) hy) (by rw [Pg.withBody_names]; simp only [List.nil_append, Nat.zero_add, hs]; exact h0), Pg.withBody_names]
    simp only [List.nil_append, Nat.zero_add, hs]
end Go.Proofs.Ytgcplcffejbniaa

/- names: the statements that NamesBreaks lays behind a body: what is said of them. -/
namespace Go.Proofs.Ytgcplcffejbniaa
open Go.RowKit Go.Maps

def nobodyN : ByteArray := ⟨#[110, 111, 98, 111, 100, 121]⟩
def brkS : St := .mk 8 ⟨#[]⟩ 0 zeroEx zeroEx [] [] []
def asgS : St := .mk 3 nobodyN 0 (.mk 2 0 nobodyN []) zeroEx [] [] []
def retS : St := .mk 9 ⟨#[]⟩ 0 (.mk 3 0 nobodyN [.mk 1 0 ⟨#[]⟩ []]) zeroEx [] [] []
/-- Has a function a variable of a name at its body's own level? -/
def knownB (f : Fn) (s : ByteArray) : Bool := f.params.any (fun y => decide (y.name = s)) || f.body.any (fun x => decide (x.name = s))
theorem kAfter_kind {l : List St} {K : Known} {s : ByteArray} (h : kindOf (kAfter K l) s ≠ 0) : kindOf K s ≠ 0 ∨ ∃ x ∈ l, x.name = s := by
  induction l generalizing K with
  | nil => exact .inl h
  | cons x l ih =>
    rcases ih (K := x.nadd K) h with h1 | ⟨y, hy, e⟩
    · by_cases e : x.name = s
      · exact .inr ⟨x, by simp, e⟩
      · refine .inl fun h0 => h1 ?_
        have key : ∀ (K : Known) (v : Int), kindOf K s = 0 → kindOf (K ++ [(x.name, v)]) s = 0 := fun K v h => by
          induction K with
          | nil => simp [kindOf, e]
          | cons q K ih =>
            simp only [List.cons_append, kindOf] at h ⊢
            split at h
            · rename_i hq; rw [if_pos hq]; exact h
            · rename_i hq; rw [if_neg hq]; exact ih h
        unfold St.nadd
        split
        · exact key _ _ h0
        · split
          · exact key _ _ h0
          · exact h0
    · exact .inr ⟨y, by simp [hy], e⟩
theorem known_of {f : Fn} {s : ByteArray} (h : knownB f s = false) : kindOf (kAfter (parK f.params) f.body) s = 0 := by
  apply Classical.byContradiction
  intro hn
  unfold knownB at h
  simp only [Bool.or_eq_false_iff, List.any_eq_false, decide_eq_true_eq] at h
  rcases kAfter_kind hn with h1 | ⟨x, hx, e⟩
  · obtain ⟨y, hy, e⟩ := List.mem_map.1 (parK_kind.1 h1)
    exact h.1 y hy e
  · exact h.2 x hx e
theorem brkS_chk : (brkS.chk 1).2 = 0 := by kernel_rfl
theorem asgS_chk : (asgS.chk 1).2 = 0 := by kernel_rfl
theorem retS_chk : (retS.chk 1).2 = 0 := by kernel_rfl
theorem callSt_chk {s : ByteArray} (h : nameB s = true) : ((callSt s).chk 1).2 = 0 := by
  have e : (callSt s).front 1 = 0 := by
    have h1 : (callSt s).own = 0 := by
      simp [St.own, St.formed, callSt, zeroEx, knownS, cntName, cntN, cntA, cntB, cntBody, cntElse, cntCases, St.kind, St.name, St.n, St.a, St.b, St.body, St.els, St.cases, Ex.zero, Ex.kind, Ex.n, Ex.name, Ex.args, lowestB]
      rfl
    have h2 : Ex.err (.mk 4 0 s []) 2 = 0 := by
      simp [Ex.err, Ex.own, Ex.badForm, namedB, h, Ex.kind, Ex.n, Ex.name, Ex.args, Ex.errs, kindB, arityN]
    unfold St.front
    rw [if_neg (by decide), h1, if_neg (by simp)]
    have e1 : (callSt s).a = .mk 4 0 s [] := rfl
    rw [e1, show (1 : Int) + 1 = 2 from rfl, h2, if_neg (by simp)]
    rw [if_neg (by simp [cntB, callSt, St.kind])]
  rw [St.chk_eq, e]
  simp only [callSt, St.body, St.cases, St.els, St.chks, Cs.chks]
  rfl
theorem brkS_nchk (K : Known) (G : List ByteArray) : brkS.nchk K G 0 = (1, 32) := by
  rw [St.nchk_eq]
  have e : brkS.nfirst K G 0 = 32 := by simp [St.nfirst, brkS, St.kind]
  rw [e]
  rfl
theorem callSt_nchk (K : Known) (G : List ByteArray) (s : ByteArray) : (callSt s).nchk K G 0 = (1, if s ∈ G then 0 else 8) := by
  rw [St.nchk_eq]
  have e : (callSt s).nfirst K G 0 = if s ∈ G then 0 else 8 := by
    simp only [St.nfirst, St.nlead, callSt, St.kind, St.a, Ex.nerr, Ex.nown, Ex.kind, Ex.name, Ex.nerrs]
    by_cases h : s ∈ G <;> simp [h]
  have e2 : (callSt s).nadd K = K := by simp [St.nadd, callSt, St.kind]
  rw [e, e2]
  simp only [callSt, St.kind, St.body, St.cases, St.els, St.name, St.nchks, Cs.nchks, after_zero]
  by_cases h : s ∈ G <;> simp [h, after]
theorem asgS_nchk (K : Known) (G : List ByteArray) (h : kindOf K nobodyN = 0) : asgS.nchk K G 0 = (1, 8) := by
  rw [St.nchk_eq]
  have e : asgS.nfirst K G 0 = 8 := by simp [St.nfirst, St.nlead, asgS, St.kind, St.name, needE, h]
  rw [e]
  rfl
theorem retS_nchk (K : Known) (G : List ByteArray) (h : kindOf K nobodyN = 0) : retS.nchk K G 0 = (1, 8) := by
  rw [St.nchk_eq]
  have e : retS.nfirst K G 0 = 8 := by simp [St.nfirst, St.nlead, retS, St.kind, St.a, Ex.nerr, Ex.nown, Ex.kind, Ex.name, needE, h]
  rw [e]
  rfl
/-- Statement x behind function n's body is wrong, by e, where nobody knows the name. -/
def Wrong (p : Pg) (n : Nat) (f : Fn) (x : St) (e : Int) : Prop := (x.chk 1).2 = 0 ∧ e ≠ 0 ∧ (knownB f nobodyN = false → x.nchk (kAfter (parK f.params) f.body) (gAt p.funcs n) 0 = (1, e))
theorem wrong_law {p : Pg} {n : Nat} {f : Fn} (hf : p.funcs[n]? = some f) {x : St} {e : Int} (hw : Wrong p n f x e) (h1 : p.fault.1 = 0) (h : p.nfault.1 = 0) (h3 : (p.withBody n (f.body ++ [x])).fault.1 ≠ 3) :
    (p.withBody n (f.body ++ [x])).nfault = (e, (n : Int), (St.nums f.body : Int) + 1) ∨ knownB f nobodyN = true := by
  by_cases hk : knownB f nobodyN = true
  · exact .inr hk
  · refine .inl ?_
    have h2 : (p.withBody n (f.body ++ [x])).fault.1 = 0 := by
      rcases brk_fault hf x hw.1 h1 with h | h
      · exact absurd h h3
      · rw [h]
    rw [brk_nfault hf x h1 h h2 e (hw.2.2 (by simpa using hk)), if_neg hw.2.1]
theorem Pg.name_ok {p : Pg} (h : p.fault.1 = 0) {n : Nat} {f : Fn} (hf : p.funcs[n]? = some f) : nameB f.name = true := by
  unfold Pg.fault at h
  by_cases h0 : p.headErr = 0
  · rw [if_neg (by rw [h0]; decide)] at h
    have h3 := Fn.faults_all h n f hf
    unfold Fn.fault at h3
    by_cases hf0 : f.face = 0
    · unfold Fn.face at hf0
      split at hf0
      · omega
      · rename_i hn; simpa using hn
    · rw [if_pos hf0] at h3; exact absurd h3 hf0
  · rw [if_pos h0] at h; exact absurd h h0
theorem wrong_brk (p : Pg) (n : Nat) (f : Fn) : Wrong p n f brkS 32 := ⟨brkS_chk, by decide, fun _ => brkS_nchk _ _⟩
theorem wrong_call {p : Pg} {n : Nat} {f : Fn} (hf : p.funcs[n]? = some f) (h1 : p.fault.1 = 0) (h : p.nfault.1 = 0) : Wrong p n f (callSt f.name) 8 := by
  have hr := Fn.right (Pg.nfault_all h1 h n f hf)
  exact ⟨callSt_chk (Pg.name_ok h1 hf), by decide, fun _ => by rw [callSt_nchk, if_neg hr.1]⟩
theorem wrong_asg (p : Pg) (n : Nat) (f : Fn) : Wrong p n f asgS 8 := ⟨asgS_chk, by decide, fun h => asgS_nchk _ _ (known_of h)⟩
theorem wrong_ret (p : Pg) (n : Nat) (f : Fn) : Wrong p n f retS 8 := ⟨retS_chk, by decide, fun h => retS_nchk _ _ (known_of h)⟩
/-- A call of the first function behind a body: nothing is wrong, and it is the first that is called. -/
theorem call_law {p : Pg} {n : Nat} {f f0 : Fn} (hf : p.funcs[n]? = some f) (hf0 : p.funcs[0]? = some f0) (hn : 0 < n) (h1 : p.fault.1 = 0) (h : p.nfault.1 = 0) (h2 : (p.withBody n (f.body ++ [callSt f0.name])).fault.1 = 0) :
    (p.withBody n (f.body ++ [callSt f0.name])).nfault = (0, 0, 0) ∧ ∃ l, (p.withBody n (f.body ++ [callSt f0.name])).ncalls (n : Int) = 0 :: l := by
  have hg : (gAt p.funcs n)[0]? = some f0.name := gAt_at hf0 hn
  have e := brk_nfault hf (callSt f0.name) h1 h h2 0 (by rw [callSt_nchk, if_pos (List.mem_of_getElem? hg)])
  rw [if_pos rfl] at e
  refine ⟨e, ?_⟩
  unfold Pg.ncalls
  rw [e, if_neg (by rintro (h | h); exact h rfl; omega)]
  simp only [Int.toNat_natCast, Pg.withBody_at hf, Pg.withBody_names]
  have hm : (0 : Int) ∈ callsN (gAt p.funcs n) (St.ncallss (f.withBody (f.body ++ [callSt f0.name])).body) := by
    rw [callsN_mem]
    refine ⟨0, f0.name, rfl, hg, ?_⟩
    show f0.name ∈ St.ncallss (f.body ++ [callSt f0.name])
    rw [St.ncallss_append]
    simp [St.ncallss, callSt, St.ncalls, Ex.ncalls]
  have hs := callsN_sorted (gAt p.funcs n) (St.ncallss (f.withBody (f.body ++ [callSt f0.name])).body)
  have hp : ∀ z ∈ callsN (gAt p.funcs n) (St.ncallss (f.withBody (f.body ++ [callSt f0.name])).body), 0 ≤ z := fun z hz => by
    obtain ⟨k, _, rfl, _⟩ := (callsN_mem _ _ _).1 hz
    omega
  generalize callsN (gAt p.funcs n) (St.ncallss (f.withBody (f.body ++ [callSt f0.name])).body) = l at *
  cases l with
  | nil => cases hm
  | cons a l =>
    refine ⟨l, ?_⟩
    rcases List.mem_cons.1 hm with h0 | h0
    · rw [← h0]
    · have h3 := (List.pairwise_cons.1 hs).1 0 h0
      have h4 := hp a (by simp)
      omega
end Go.Proofs.Ytgcplcffejbniaa

/- soffitlaw04.last and known. -/
namespace Go.Proofs.Ytgcplcffejbniaa
open Go.RowKit Go.Maps

theorem bytes_eqb (a b : ByteArray) : (a.toList == b.toList) = decide (a = b) := by
  rw [ByteArray.toList_eq, ByteArray.toList_eq, Bool.eq_iff_iff, beq_iff_eq, decide_eq_true_eq]
  constructor
  · intro h
    have : a.data = b.data := Array.toList_inj.1 h
    cases a; cases b; simp_all
  · intro h; rw [h]
end Go.Proofs.Ytgcplcffejbniaa

namespace Go.Proofs.Ytgcplcffejbniaa
open Go.RowKit Go.Maps

theorem append_any_wp {P : Program} {o : Oper} {a : Act} {K : Act → World → Prop} {Q : Exit → Act → World → Prop} {w : World} (s x : Operand) (t : TypeId)
    (ho : o.op = .call { callee := .builtin .append, args := #[s, x], argTypes := #[t, t] })
    {e : TypeId} {z : Value} {size bytes : Nat} (ht : P.underlying t = some (.slice e)) (hinfo : (P.info? e).map (fun i => (i.zero, i.size, i.bytes)) = some (some z, size, bytes))
    (hzs : z.cells.size = size) (hsz : 0 < size) (B : Nat) (v : Value) (n : Nat) (xs : List Value) (hs : a.eval s = v) (hown : w.ownsRow B e size v n xs) (sv : Value) (m : Nat) (news : List Value) (hx : a.eval x = sv) (hsrc : SliceIn w sv m size news) (h1 : ∀ u ∈ news, u.oneCell' = true)
    (h63 : n + m ≤ maxLen) (hbytes : (n + m) * bytes ≤ 140737488355328) (hB : B ≤ w.heap.size)
    (h : ∀ v' w', w'.ownsRow B e size v' (n + m) (xs ++ news) → w.grownBy w' v.ownBlock → Fresh w v v' → K (a.put o.dst v') w') : o.wp P a w K Q := by
  obtain ⟨v', w', hr, h2, h3, h4⟩ := append_run (ty := o.type) ht hinfo hzs hsz B v n xs hown sv m news hsrc h1 h63 hbytes hB
  unfold Oper.wp execOp
  simp only [ho, resolve, invoke, builtin, Sem.run_bind, Sem.run_pure, Result.andThen_ok, List.map_toArray, List.map_cons, List.map_nil, hs, hx, hr]
  exact h v' w' h2 h3 h4
/-- A statement with nothing but its own cells and its first expression's arguments. -/
def St.lone (x : St) : Prop := x.b.args = [] ∧ x.body = [] ∧ x.els = [] ∧ x.cases = []
/-- The values of a body's statements. -/
structure BodyAt (w : World) (l : List St) (v : Value) (va vb vd ve vc : Nat → Value) (vk : Nat → Nat → Value) : Prop where
  row : RowOf w v l.length 14 (fun b o i => ∀ x, l[i]? = some x → StAt w b o x (va i) (vb i) (vd i) (ve i) (vc i))
  ha : ∀ (i : Nat) x, l[i]? = some x → ExsIn w x.a.args (va i)
  hb : ∀ (i : Nat) x, l[i]? = some x → ExsIn w x.b.args (vb i)
  hd : ∀ (i : Nat) x, l[i]? = some x → StsIn w x.body (vd i)
  he : ∀ (i : Nat) x, l[i]? = some x → StsIn w x.els (ve i)
  hc : ∀ (i : Nat) x, l[i]? = some x → RowOf w (vc i) x.cases.length 2 (fun b o k => ∀ y, x.cases[k]? = some y → CsAt w b o y (vk i k))
  hk : ∀ (i : Nat) x (k : Nat) y, l[i]? = some x → x.cases[k]? = some y → StsIn w y.body (vk i k)
/-- The values of a body in memory of its own, wherever that reads as it did. -/
theorem OwnSts.body {w : World} {lo hi : Nat} {l : List St} {v : Value} (h : OwnSts w lo hi l v) : ∃ va vb vd ve vc vk, ∀ w' : World, hi ≤ w'.heap.size → (∀ k, lo ≤ k → k < hi → w'.heap[k]? = w.heap[k]?) → BodyAt w' l v va vb vd ve vc vk := by
  cases h with
  | mk _ _ _ g cap va vb vd ve vc vk m gc cc lk hk hg hs own rng apart ea eb ed ee ec ck ca each =>
    refine ⟨va, vb, vd, ve, vc, vk, fun w' hs' hb => ?_⟩
    have R : ∀ (i : Nat) x, l[i]? = some x → _ := fun i x hx => rng i (List.getElem?_eq_some_iff.1 hx).1
    obtain ⟨k1, k2, k3, k4⟩ := ownsRow_rowOf (ownsRow_at own (hb g hg.1 hg.2)) (stRow_len l va vb vd ve vc)
    refine ⟨?_, fun i x hx => ?_, fun i x hx => ?_, fun i x hx => ?_, fun i x hx => ?_, fun i x hx => ?_, fun i x k y hx hy => ?_⟩
    · refine ⟨some ⟨g, 0, none⟩, cap, rfl, k1, k2, by simp, fun _ => ⟨g, 0, rfl, k3, fun i hi x hx => ?_⟩⟩
      have k : ∀ (j : Nat) u, j < 14 → (stVs x (va i) (vb i) (vd i) (ve i) (vc i))[j]? = some u → w'.cell? ⟨g, 0 + i * 14 + j, none⟩ = some u := fun j u hj hu => by
        rw [Nat.zero_add]; exact k4 i j u hi hj (by rw [stRow_at hx]; exact hu)
      exact ⟨k 0 _ (by decide) rfl, k 1 _ (by decide) rfl, k 2 _ (by decide) rfl, k 3 _ (by decide) rfl, k 4 _ (by decide) rfl, k 5 _ (by decide) rfl, k 6 _ (by decide) rfl, k 7 _ (by decide) rfl, k 8 _ (by decide) rfl, k 9 _ (by decide) rfl, k 10 _ (by decide) rfl, k 11 _ (by decide) rfl, k 12 _ (by decide) rfl, k 13 _ (by decide) rfl⟩
    · have := R i x hx
      exact ((ea i x hx).apart (by omega) fun k h1 h2 => hb k (by omega) (by omega)).reads
    · have := R i x hx
      exact ((eb i x hx).apart (by omega) fun k h1 h2 => hb k (by omega) (by omega)).reads
    · have := R i x hx
      exact ((ed i x hx).apart (by omega) fun k h1 h2 => hb k (by omega) (by omega)).reads
    · have := R i x hx
      exact ((ee i x hx).apart (by omega) fun k h1 h2 => hb k (by omega) (by omega)).reads
    · have := R i x hx
      obtain ⟨e1, e2, e3⟩ := ec i x hx
      obtain ⟨q1, q2, q3, q4⟩ := ownsRow_rowOf (ownsRow_at e3 (hb (gc i) (by omega) (by omega))) (csRow_len x.cases (vk i))
      refine ⟨some ⟨gc i, 0, none⟩, cc i, e1, q1, q2, by simp, fun _ => ⟨gc i, 0, rfl, q3, fun k hk y hy => ?_⟩⟩
      have q : ∀ (j : Nat) u, j < 2 → (csVs y (vk i k))[j]? = some u → w'.cell? ⟨gc i, 0 + k * 2 + j, none⟩ = some u := fun j u hj hu => by
        rw [Nat.zero_add]; exact q4 k j u hk hj (by rw [csRow_at hy]; exact hu)
      exact ⟨q 0 _ (by decide) rfl, q 1 _ (by decide) rfl⟩
    · have := R i x hx
      have := ck i x k hx (List.getElem?_eq_some_iff.1 hy).1
      exact ((each i x k y hx hy).apart (by omega) fun k h1 h2 => hb k (by omega) (by omega)).reads
theorem StsIn.at {w : World} {l : List St} {v : Value} (h : StsIn w l v) : ∃ va vb vd ve vc vk, BodyAt w l v va vb vd ve vc vk := by
  cases h with
  | mk _ _ va vb vd ve vc vk h ha hb hd he hc hk => exact ⟨va, vb, vd, ve, vc, vk, h, ha, hb, hd, he, hc, hk⟩
theorem BodyAt.slice {w : World} {l : List St} {v : Value} {va vb vd ve vc : Nat → Value} {vk : Nat → Nat → Value} (h : BodyAt w l v va vb vd ve vc vk) : SliceIn w v l.length 14 (rowsOf (stRow l va vb vd ve vc) l.length) := by
  refine h.row.slice (stRow_len l va vb vd ve vc) fun b o i hi hp j u hj hu => ?_
  have hx := List.getElem?_eq_getElem hi
  rw [stRow_at hx] at hu
  obtain ⟨c0, c1, c2, c3, c4, c5, c6, c7, c8, c9, c10, c11, c12, c13⟩ := hp _ hx
  match j, hj with
  | 0, _ => cases hu; simpa using c0
  | 1, _ => cases hu; exact c1
  | 2, _ => cases hu; exact c2
  | 3, _ => cases hu; exact c3
  | 4, _ => cases hu; exact c4
  | 5, _ => cases hu; exact c5
  | 6, _ => cases hu; exact c6
  | 7, _ => cases hu; exact c7
  | 8, _ => cases hu; exact c8
  | 9, _ => cases hu; exact c9
  | 10, _ => cases hu; exact c10
  | 11, _ => cases hu; exact c11
  | 12, _ => cases hu; exact c12
  | 13, _ => cases hu; exact c13
theorem one_slice {v : Value} (h : ∃ a n c, v = .slice a n c) : v.oneCell' = true := by obtain ⟨a, n, c, rfl⟩ := h; rfl
theorem BodyAt.one {w : World} {l : List St} {v : Value} {va vb vd ve vc : Nat → Value} {vk : Nat → Nat → Value} (h : BodyAt w l v va vb vd ve vc vk) : ∀ u ∈ rowsOf (stRow l va vb vd ve vc) l.length, u.oneCell' = true := by
  refine rows_one fun j hj u hu => ?_
  have hx := List.getElem?_eq_getElem hj
  rw [stRow_at hx] at hu
  obtain ⟨_, _, e1, -⟩ := (h.ha j _ hx).form
  obtain ⟨_, _, e2, -⟩ := (h.hb j _ hx).form
  obtain ⟨_, _, e3, -⟩ := (h.hd j _ hx).form
  obtain ⟨_, _, e4, -⟩ := (h.he j _ hx).form
  obtain ⟨_, _, e5, -⟩ := (h.hc j _ hx).form
  unfold stVs at hu
  rw [e1, e2, e3, e4, e5] at hu
  simp at hu
  rcases hu with rfl | rfl | rfl | rfl | rfl | rfl | rfl | rfl | rfl | rfl | rfl | rfl | rfl | rfl <;> rfl
/-- A body with one more statement behind it, in new memory. -/
theorem BodyAt.snoc {w' : World} {l : List St} {v : Value} {va vb vd ve vc : Nat → Value} {vk : Nat → Nat → Value} (h : BodyAt w' l v va vb vd ve vc vk) {x : St} (hx : x.lone) {xa : Value} (hxa : ExsIn w' x.a.args xa) {B g c : Nat}
    (ho : w'.ownsRow B 48 14 (.slice (some ⟨g, 0, none⟩) (l.length + 1) c) (l.length + 1) (rowsOf (stRow l va vb vd ve vc) l.length ++ stVs x xa nilV nilV nilV nilV)) : StsIn w' (l ++ [x]) (.slice (some ⟨g, 0, none⟩) (l.length + 1) c) := by
  have e : rowsOf (stRow l va vb vd ve vc) l.length ++ stVs x xa nilV nilV nilV nilV = rowsOf (stRow (l ++ [x]) (setAt va l.length xa) (setAt vb l.length nilV) (setAt vd l.length nilV) (setAt ve l.length nilV) (setAt vc l.length nilV)) (l ++ [x]).length := by
    rw [List.length_append, List.length_singleton, rowsOf]
    congr 1
    · refine rowsOf_ext _ fun j hj => ?_
      rw [stRow_at (List.getElem?_eq_getElem hj), stRow_at (l := l ++ [x]) (by rw [List.getElem?_append_left hj, List.getElem?_eq_getElem hj]), setAt_other _ _ _ (by omega), setAt_other _ _ _ (by omega), setAt_other _ _ _ (by omega), setAt_other _ _ _ (by omega), setAt_other _ _ _ (by omega)]
    · rw [stRow_at (l := l ++ [x]) (i := l.length) (x := x) (by simp), setAt_same, setAt_same, setAt_same, setAt_same, setAt_same]
  have hl : (l ++ [x]).length = l.length + 1 := by simp
  have at' : ∀ (i : Nat) y, (l ++ [x])[i]? = some y → (i = l.length ∧ y = x) ∨ (i ≠ l.length ∧ l[i]? = some y) := fun i y hy => by
    by_cases hi : i < l.length
    · rw [List.getElem?_append_left hi] at hy; exact .inr ⟨by omega, hy⟩
    · have h2 := (List.getElem?_eq_some_iff.1 hy).1
      have : i = l.length := by omega
      subst this
      rw [List.getElem?_append_right (Nat.le_refl _)] at hy
      simp at hy
      exact .inl ⟨rfl, hy.symm⟩
  rw [e] at ho
  obtain ⟨_, a, c', h2, h3, h4, _, h6⟩ := SliceIn.of_owns ho
  cases h2
  refine .mk _ _ (setAt va l.length xa) (setAt vb l.length nilV) (setAt vd l.length nilV) (setAt ve l.length nilV) (setAt vc l.length nilV) vk ?_ (fun i y hy => ?_) (fun i y hy => ?_) (fun i y hy => ?_) (fun i y hy => ?_) (fun i y hy => ?_) (fun i y k z hy hz => ?_)
  · rw [hl]
    refine ⟨_, _, rfl, h3, h4, by simp, fun _ => ?_⟩
    obtain ⟨b, off, e1, e2, e3⟩ := h6 (Nat.succ_pos _)
    cases e1
    refine ⟨_, _, rfl, e2, fun i hi y hy => ?_⟩
    have k : ∀ (j : Nat) u, j < 14 → (stVs y (setAt va l.length xa i) (setAt vb l.length nilV i) (setAt vd l.length nilV i) (setAt ve l.length nilV i) (setAt vc l.length nilV i))[j]? = some u → w'.cell? ⟨g, 0 + i * 14 + j, none⟩ = some u := fun j u hj hu => by
      rw [Nat.add_assoc]
      refine e3 (i * 14 + j) u ?_
      rw [rowsOf_get (stRow_len _ _ _ _ _ _) i j (by rw [hl]; exact hi) hj, stRow_at hy]
      exact hu
    exact ⟨k 0 _ (by decide) rfl, k 1 _ (by decide) rfl, k 2 _ (by decide) rfl, k 3 _ (by decide) rfl, k 4 _ (by decide) rfl, k 5 _ (by decide) rfl, k 6 _ (by decide) rfl, k 7 _ (by decide) rfl, k 8 _ (by decide) rfl, k 9 _ (by decide) rfl, k 10 _ (by decide) rfl, k 11 _ (by decide) rfl, k 12 _ (by decide) rfl, k 13 _ (by decide) rfl⟩
  · rcases at' i y hy with ⟨rfl, rfl⟩ | ⟨hne, hy⟩
    · rw [setAt_same]; exact hxa
    · rw [setAt_other _ _ _ hne]; exact h.ha i y hy
  · rcases at' i y hy with ⟨rfl, rfl⟩ | ⟨hne, hy⟩
    · rw [setAt_same, hx.1]; exact exsIn_nil _
    · rw [setAt_other _ _ _ hne]; exact h.hb i y hy
  · rcases at' i y hy with ⟨rfl, rfl⟩ | ⟨hne, hy⟩
    · rw [setAt_same, hx.2.1]; exact stsIn_nil _
    · rw [setAt_other _ _ _ hne]; exact h.hd i y hy
  · rcases at' i y hy with ⟨rfl, rfl⟩ | ⟨hne, hy⟩
    · rw [setAt_same, hx.2.2.1]; exact stsIn_nil _
    · rw [setAt_other _ _ _ hne]; exact h.he i y hy
  · rcases at' i y hy with ⟨rfl, rfl⟩ | ⟨hne, hy⟩
    · rw [setAt_same, hx.2.2.2]; exact rowOf_nil _ _ _
    · rw [setAt_other _ _ _ hne]
      exact h.hc i y hy
  · rcases at' i y hy with ⟨rfl, rfl⟩ | ⟨hne, hy⟩
    · rw [hx.2.2.2] at hz; simp at hz
    · exact h.hk i y k z hy hz
/-- The table of NamesBreaks: the statements, their errors, what their first expressions hold. -/
def tabX (f : Fn) : Nat → St
  | 0 => brkS
  | 1 => callSt f.name
  | 2 => asgS
  | _ => retS
def tabE : Nat → Int
  | 0 => 32
  | _ => 8
def tabA (R : Nat) : Nat → Option Addr
  | 3 => some ⟨R, 0, none⟩
  | _ => none
def tabN : Nat → Nat
  | 3 => 1
  | _ => 0
def tabRow (f : Fn) (R i : Nat) : List Value := stVs (tabX f i) (.slice (tabA R i) (tabN i) (tabN i)) nilV nilV nilV nilV ++ [.int .i64 (tabE i)]
theorem tabRow_len (f : Fn) (R i : Nat) : (tabRow f R i).length = 15 := by simp [tabRow, stVs]
theorem tab_lone (f : Fn) (i : Nat) : (tabX f i).lone := by
  unfold tabX
  split <;> exact ⟨rfl, rfl, rfl, rfl⟩
theorem tab_wrong {p : Pg} {n : Nat} {f : Fn} (hf : p.funcs[n]? = some f) (h1 : p.fault.1 = 0) (h : p.nfault.1 = 0) (i : Nat) : Wrong p n f (tabX f i) (tabE i) := by
  match i with
  | 0 => exact wrong_brk p n f
  | 1 => exact wrong_call hf h1 h
  | 2 => exact wrong_asg p n f
  | i + 3 => exact wrong_ret p n f
/-- The arguments of the table's expressions read, where the number's block does. -/
theorem tab_args {w : World} {R : Nat} (f : Fn) (h0 : w.cell? ⟨R, 0, none⟩ = some (.int .i64 1)) (h1 : w.cell? ⟨R, 1, none⟩ = some (.int .i64 0)) (h2 : w.cell? ⟨R, 2, none⟩ = some (.string ⟨#[]⟩)) (h3 : w.cell? ⟨R, 3, none⟩ = some nilV) (hR : R < w.heap.size) (i : Nat) (hi : i < 4) :
    ExsIn w (tabX f i).a.args (.slice (tabA R i) (tabN i) (tabN i)) := by
  match i, hi with
  | 0, _ => exact exsIn_nil w
  | 1, _ => exact exsIn_nil w
  | 2, _ => exact exsIn_nil w
  | 3, _ =>
    refine .mk _ _ (fun _ => nilV) ⟨_, _, rfl, Nat.le_refl _, by decide, by simp [tabA], fun _ => ⟨R, 0, rfl, hR, fun i hi x hx => ?_⟩⟩ fun i x hx => ?_
    · have hi0 : i = 0 := by
        have : i < 1 := hi
        omega
      subst hi0
      cases hx
      have e : 0 + 0 * 4 = 0 := rfl
      rw [e]
      exact ⟨h0, (by rw [Nat.zero_add]; exact h1), (by rw [Nat.zero_add]; exact h2), (by rw [Nat.zero_add]; exact h3)⟩
    · have hi0 : i = 0 := by
        have h : i < 1 := (List.getElem?_eq_some_iff.1 hx).1
        omega
      subst hi0
      cases hx
      exact exsIn_nil w
/-- What a body with one more statement is good for, laid into the block of the functions. -/
def BrkEnd (W12 : World) (Y g nb : Nat) (f : Fn) (x : St) (av : Option Addr) (an : Nat) (va vb vd ve vc : Nat → Value) (vk : Nat → Nat → Value) (bv : Value) : Prop :=
  StAt W12 Y 0 x (.slice av an an) nilV nilV nilV nilV ∧ Y < W12.heap.size ∧ Y ≠ g ∧ x.lone ∧ nb = f.body.length ∧
  ∀ w', W12.heap.size ≤ w'.heap.size → (∀ k, k < W12.heap.size → k ≠ g → w'.heap[k]? = W12.heap[k]?) → BodyAt w' f.body bv va vb vd ve vc vk ∧ ExsIn w' x.a.args (.slice av an an)
theorem brk_end {W11 W12 w W13 : World} {Y g o nb : Nat} {f : Fn} {x : St} {av : Option Addr} {an : Nat} {va vb vd ve vc : Nat → Value} {vk : Nat → Nat → Value} {bv : Value} (h12 : Below W11.heap.size W11 W12) (hb : Below W12.heap.size W12 w) (hg : g < W11.heap.size) (hg2 : g < W12.heap.size) {g7 c7 : Nat}
    (hW : W13 = w.setCell ⟨g, o, none⟩ (.slice (some ⟨g7, 0, none⟩) (nb + 1) c7)) (hs : (w.cell? ⟨g, o, none⟩).isSome = true) (hfr : w.frozen? ⟨g, o, none⟩ = false) (hg7 : W12.heap.size ≤ g7) (hg7' : g7 < w.heap.size)
    (ho : w.ownsRow W12.heap.size 48 14 (.slice (some ⟨g7, 0, none⟩) (nb + 1) c7) (nb + 1) (rowsOf (stRow f.body va vb vd ve vc) nb ++ stVs x (.slice av an an) nilV nilV nilV nilV)) (he : BrkEnd W12 Y g nb f x av an va vb vd ve vc vk bv) :
    StAt W13 Y 0 x (.slice av an an) (.slice none 0 0) (.slice none 0 0) (.slice none 0 0) (.slice none 0 0) ∧
    (Oth (· = g) W11 W13 ∧ (∀ q u, q ≠ o → W11.cell? ⟨g, q, none⟩ = some u → W13.cell? ⟨g, q, none⟩ = some u) ∧ W13.frozen? ⟨g, o, none⟩ = false ∧ ∃ g7 c7, W13.cell? ⟨g, o, none⟩ = some (.slice (some ⟨g7, 0, none⟩) (nb + 1) c7) ∧ StsIn W13 (f.body ++ [x]) (.slice (some ⟨g7, 0, none⟩) (nb + 1) c7)) := by
  obtain ⟨e1, e2, e3, e4, e5, e6⟩ := he
  have hO : Oth (· = g) w W13 := by rw [hW]; exact (Oth.refl (· = g) w).set (p := ⟨g, o, none⟩) rfl _
  have h11 : Below W11.heap.size W11 w := h12.trans (hb.mono h12.size)
  have hsz := hb.size
  refine ⟨?_, (Oth.of_below h11).trans hO, fun q u h1 h2 => ?_, ?_, g7, c7, ?_, ?_⟩
  · have h := e1.later hb e2
    exact h.oth hO (by omega) e3
  · rw [hW, World.cell?_setCell_other _ _ _ _ (by intro e; cases e; exact h1 rfl)]
    exact (h11.cell (p := ⟨g, q, none⟩) hg).trans h2
  · rw [hW, World.frozen?_setCell]; exact hfr
  · rw [hW]; exact World.cell?_setCell_same' _ _ _ hs
  · obtain ⟨b1, b2⟩ := e6 W13 (Nat.le_trans hsz hO.size) fun k h1 h2 => (hO.block k (by omega) h2).trans (hb.block k h1)
    subst e5
    exact b1.snoc e4 b2 (ownsRow_at ho (hO.block g7 hg7' (by show ¬ g7 = g; omega)))
/-- The same, of a statement that stands in no place of its own. -/
theorem brk_end2 {W12 w W13 : World} {g o nb : Nat} {f : Fn} {x : St} {xa : Value} {va vb vd ve vc : Nat → Value} {vk : Nat → Nat → Value} {bv : Value} (hb : Below W12.heap.size W12 w) (hg2 : g < W12.heap.size) {g7 c7 : Nat}
    (hW : W13 = w.setCell ⟨g, o, none⟩ (.slice (some ⟨g7, 0, none⟩) (nb + 1) c7)) (hs : (w.cell? ⟨g, o, none⟩).isSome = true) (hg7 : W12.heap.size ≤ g7) (hg7' : g7 < w.heap.size)
    (ho : w.ownsRow W12.heap.size 48 14 (.slice (some ⟨g7, 0, none⟩) (nb + 1) c7) (nb + 1) (rowsOf (stRow f.body va vb vd ve vc) nb ++ stVs x xa nilV nilV nilV nilV)) (hx : x.lone) (hn : nb = f.body.length)
    (e6 : ∀ w', W12.heap.size ≤ w'.heap.size → (∀ k, k < W12.heap.size → k ≠ g → w'.heap[k]? = W12.heap[k]?) → BodyAt w' f.body bv va vb vd ve vc vk ∧ ExsIn w' x.a.args xa) :
    Oth (· = g) W12 W13 ∧ (∀ q u, q ≠ o → W12.cell? ⟨g, q, none⟩ = some u → W13.cell? ⟨g, q, none⟩ = some u) ∧ W13.cell? ⟨g, o, none⟩ = some (.slice (some ⟨g7, 0, none⟩) (nb + 1) c7) ∧ StsIn W13 (f.body ++ [x]) (.slice (some ⟨g7, 0, none⟩) (nb + 1) c7) := by
  have hO : Oth (· = g) w W13 := by rw [hW]; exact (Oth.refl (· = g) w).set (p := ⟨g, o, none⟩) rfl _
  have hsz := hb.size
  refine ⟨(Oth.of_below hb).trans hO, fun q u h1 h2 => ?_, ?_, ?_⟩
  · rw [hW, World.cell?_setCell_other _ _ _ _ (by intro e; cases e; exact h1 rfl)]
    exact (hb.cell (p := ⟨g, q, none⟩) hg2).trans h2
  · rw [hW]; exact World.cell?_setCell_same' _ _ _ hs
  · obtain ⟨b1, b2⟩ := e6 W13 (Nat.le_trans hsz hO.size) fun k h1 h2 => (hO.block k (by omega) h2).trans (hb.block k h1)
    subst hn
    exact b1.snoc hx b2 (ownsRow_at ho (hO.block g7 hg7' (by show ¬ g7 = g; omega)))
end Go.Proofs.Ytgcplcffejbniaa
