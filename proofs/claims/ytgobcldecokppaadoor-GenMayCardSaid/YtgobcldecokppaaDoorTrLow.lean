/- Has a case the least number? -/
import Derived.Test.YtgobcldecokppaaDoorTrExpr
import Derived.Handy
/- R2's look at expressions. -/
namespace Go.Proofs.YtgobcldecokppaaDoor
open Go.RowKit

def keepE (e0 e : Int) : Int := if e0 = 0 then e else e0
theorem keepE_zero (e : Int) : keepE 0 e = e := rfl
theorem keepE_no {e0 : Int} (h : e0 ≠ 0) (e : Int) : keepE e0 e = e0 := if_neg h
theorem arityN_no (k : Int) : arityN k ≠ -2 := by unfold arityN; split <;> (try split) <;> (try split) <;> (try split) <;> omega
theorem argsN_known (k : Int) : (!kindB k) = decide (argsN k = -2) := by
  unfold argsN
  cases kindB k
  · simp
  · simpa using arityN_no k
theorem Ex.badForm_args (x : Ex) : x.badForm = (decide (argsN x.kind = -2) || (decide (0 ≤ argsN x.kind) && decide ((x.args.length : Int) ≠ argsN x.kind)) || (decide (x.n ≠ 0) && decide (x.kind ≠ 1)) || (decide (x.name.toList ≠ []) && !namedB x.kind)) := by
  rw [← argsN_known]
  unfold Ex.badForm argsN
  cases kindB x.kind
  · simp
  · simp
end Go.Proofs.YtgobcldecokppaaDoor

/- What is wrong first with statements, and how many are met up to there. -/
namespace Go.Proofs.YtgobcldecokppaaDoor
open Go.RowKit

def cntName (k : Int) : Bool := decide (k = 1 ∨ k = 2 ∨ k = 3 ∨ k = 4 ∨ k = 7)
def cntN (k : Int) : Bool := decide (k = 2)
def cntA (k : Int) : Bool := decide (k = 1 ∨ k = 3 ∨ k = 4 ∨ k = 5 ∨ k = 6 ∨ k = 7 ∨ k = 9 ∨ k = 10)
def cntB (k : Int) : Bool := decide (k = 4 ∨ k = 7)
def cntBody (k : Int) : Bool := decide (k = 5 ∨ k = 7)
def cntElse (k : Int) : Bool := decide (k = 5 ∨ k = 6)
def cntCases (k : Int) : Bool := decide (k = 6)
def knownS (k : Int) : Bool := decide (1 ≤ k ∧ k ≤ 10)
def leastI : Int := -9223372036854775808
/-- Is a statement's form right, by its own fields? -/
def St.formed (x : St) : Bool := knownS x.kind && (cntName x.kind || decide (x.name.toList = [])) && (cntN x.kind || decide (x.n = 0)) && (cntA x.kind || x.a.zero) && (cntB x.kind || x.b.zero) && (cntBody x.kind || decide (x.body.length = 0)) && (cntElse x.kind || decide (x.els.length = 0)) && (cntCases x.kind || decide (x.cases.length = 0))
def lowestB (l : List Cs) : Bool := l.any fun y => y.n == leastI
def St.own (x : St) : Int := if x.formed = false then 5 else if (cntName x.kind && !nameB x.name) = true then 8 else if (decide (x.n < 0) || lowestB x.cases) = true then 1 else if x.kind = 10 ∧ x.a.kind ≠ 4 then 5 else 0
/-- What is wrong with a statement ahead of its bodies. -/
def St.front (x : St) (level : Int) : Int :=
  if 32 < level then 20 else if x.own ≠ 0 then x.own else
  if cntA x.kind = true ∧ x.a.err (level + 1) ≠ 0 then x.a.err (level + 1) else
  if cntB x.kind = true ∧ x.b.err (level + 1) ≠ 0 then x.b.err (level + 1) else 0
/-- One after the other, up to the first that is wrong. -/
def after (r q : Nat × Int) : Nat × Int := if r.2 ≠ 0 then r else (r.1 + q.1, q.2)
mutual
def St.chk : St → Int → Nat × Int
  | .mk k s n a b body els cases, level => after (1, St.front (.mk k s n a b body els cases) level) (after (St.chks body (level + 1)) (after (Cs.chks cases (level + 1)) (St.chks els (level + 1))))
def St.chks : List St → Int → Nat × Int
  | [], _ => (0, 0)
  | x :: l, level => after (St.chk x level) (St.chks l level)
def Cs.chk : Cs → Int → Nat × Int
  | .mk _ body, level => St.chks body level
def Cs.chks : List Cs → Int → Nat × Int
  | [], _ => (0, 0)
  | x :: l, level => after (Cs.chk x level) (Cs.chks l level)
end
theorem St.chk_eq (x : St) (level : Int) : x.chk level = after (1, x.front level) (after (St.chks x.body (level + 1)) (after (Cs.chks x.cases (level + 1)) (St.chks x.els (level + 1)))) := by cases x; simp only [St.chk, St.body, St.cases, St.els]
theorem Cs.chk_eq (x : Cs) (level : Int) : x.chk level = St.chks x.body level := by cases x; simp only [Cs.chk, Cs.body]
theorem after_assoc (r q p : Nat × Int) : after (after r q) p = after r (after q p) := by
  unfold after
  by_cases h : r.2 = 0 <;> by_cases h2 : q.2 = 0 <;> simp [h, h2, Nat.add_assoc]
theorem after_zero (r : Nat × Int) : after r (0, 0) = r := by
  unfold after
  by_cases h : r.2 = 0
  · simp [h]; ext <;> simp [h]
  · simp [h]
theorem zero_after (r : Nat × Int) : after (0, 0) r = r := by unfold after; simp
theorem St.chks_snoc (l : List St) (x : St) (level : Int) : St.chks (l ++ [x]) level = after (St.chks l level) (x.chk level) := by
  induction l with
  | nil => simp only [List.nil_append, St.chks, after_zero, zero_after]
  | cons y l ih => simp only [List.cons_append, St.chks, ih, after_assoc]
theorem Cs.chks_snoc (l : List Cs) (x : Cs) (level : Int) : Cs.chks (l ++ [x]) level = after (Cs.chks l level) (x.chk level) := by
  induction l with
  | nil => simp only [List.nil_append, Cs.chks, after_zero, zero_after]
  | cons y l ih => simp only [List.cons_append, Cs.chks, ih, after_assoc]
theorem St.chks_append (l m : List St) (level : Int) : St.chks (l ++ m) level = after (St.chks l level) (St.chks m level) := by
  induction l with
  | nil => simp only [List.nil_append, St.chks, zero_after]
  | cons y l ih => simp only [List.cons_append, St.chks, ih, after_assoc]
theorem Cs.chks_append (l m : List Cs) (level : Int) : Cs.chks (l ++ m) level = after (Cs.chks l level) (Cs.chks m level) := by
  induction l with
  | nil => simp only [List.nil_append, Cs.chks, zero_after]
  | cons y l ih => simp only [List.cons_append, Cs.chks, ih, after_assoc]
/-- Once something is wrong, the rest does not matter. -/
theorem St.chks_stop {l : List St} {level : Int} (i : Nat) (h : (St.chks (l.take i) level).2 ≠ 0) : St.chks l level = St.chks (l.take i) level := by
  conv => lhs; rw [← List.take_append_drop i l]
  rw [St.chks_append]
  exact if_pos h
theorem Cs.chks_stop {l : List Cs} {level : Int} (i : Nat) (h : (Cs.chks (l.take i) level).2 ≠ 0) : Cs.chks l level = Cs.chks (l.take i) level := by
  conv => lhs; rw [← List.take_append_drop i l]
  rw [Cs.chks_append]
  exact if_pos h
theorem St.chks_take {l : List St} {i : Nat} {x : St} {level : Int} (h : l[i]? = some x) : St.chks (l.take (i + 1)) level = after (St.chks (l.take i) level) (x.chk level) := by rw [take_next h, St.chks_snoc]
theorem Cs.chks_take {l : List Cs} {i : Nat} {x : Cs} {level : Int} (h : l[i]? = some x) : Cs.chks (l.take (i + 1)) level = after (Cs.chks (l.take i) level) (x.chk level) := by rw [take_next h, Cs.chks_snoc]
end Go.Proofs.YtgobcldecokppaaDoor

/- The table of statements' fields. -/
namespace Go.Proofs.YtgobcldecokppaaDoor
open Go.RowKit

def cntV (k : Int) : Value := .agg #[.bool (cntName k), .bool (cntN k), .bool (cntA k), .bool (cntB k), .bool (cntBody k), .bool (cntElse k), .bool (cntCases k)]
set_option maxHeartbeats 4000000 in
theorem counting_any (k : Int) (W : World) : Calls Tryd.prog 54 #[.int .i64 k] W (Gives (.tuple #[cntV k, .bool (knownS k)]) W) := by
  by_cases h1 : k = 1
  · subst h1; go_enter Tryd.func54, Tryd.ntmps54; go_wp2_with fail; go_returns; exact ⟨rfl, (Below.refl _ _).alloc (Nat.le_refl _) _⟩
  by_cases h2 : k = 2
  · subst h2; go_enter Tryd.func54, Tryd.ntmps54; go_wp2_with fail; go_returns; exact ⟨rfl, (Below.refl _ _).alloc (Nat.le_refl _) _⟩
  by_cases h3 : k = 3
  · subst h3; go_enter Tryd.func54, Tryd.ntmps54; go_wp2_with fail; go_returns; exact ⟨rfl, (Below.refl _ _).alloc (Nat.le_refl _) _⟩
  by_cases h4 : k = 4
  · subst h4; go_enter Tryd.func54, Tryd.ntmps54; go_wp2_with fail; go_returns; exact ⟨rfl, (Below.refl _ _).alloc (Nat.le_refl _) _⟩
  by_cases h5 : k = 5
  · subst h5; go_enter Tryd.func54, Tryd.ntmps54; go_wp2_with fail; go_returns; exact ⟨rfl, (Below.refl _ _).alloc (Nat.le_refl _) _⟩
  by_cases h6 : k = 6
  · subst h6; go_enter Tryd.func54, Tryd.ntmps54; go_wp2_with fail; go_returns; exact ⟨rfl, (Below.refl _ _).alloc (Nat.le_refl _) _⟩
  by_cases h7 : k = 7
  · subst h7; go_enter Tryd.func54, Tryd.ntmps54; go_wp2_with fail; go_returns; exact ⟨rfl, (Below.refl _ _).alloc (Nat.le_refl _) _⟩
  by_cases h8 : k = 8
  · subst h8; go_enter Tryd.func54, Tryd.ntmps54; go_wp2_with fail; go_returns; exact ⟨rfl, (Below.refl _ _).alloc (Nat.le_refl _) _⟩
  by_cases h9 : k = 9
  · subst h9; go_enter Tryd.func54, Tryd.ntmps54; go_wp2_with fail; go_returns; exact ⟨rfl, (Below.refl _ _).alloc (Nat.le_refl _) _⟩
  by_cases h10 : k = 10
  · subst h10; go_enter Tryd.func54, Tryd.ntmps54; go_wp2_with fail; go_returns; exact ⟨rfl, (Below.refl _ _).alloc (Nat.le_refl _) _⟩
  have Hv : Hid (cntV k = .agg #[.bool false, .bool false, .bool false, .bool false, .bool false, .bool false, .bool false]) := by show _ = _; simp [cntV, cntName, cntN, cntA, cntB, cntBody, cntElse, cntCases, h1, h2, h3, h4, h5, h6, h7, h9, h10]
  have Hk : Hid (knownS k = false) := by show _ = _; simp only [knownS, decide_eq_false_iff_not]; omega
  go_enter Tryd.func54, Tryd.ntmps54
  go_wp2_with fail
  go_returns
  exact ⟨by rw [Hv.out, Hk.out, show (k == 8) = false by simp [h8]], (Below.refl _ _).alloc (Nat.le_refl _) _⟩
end Go.Proofs.YtgobcldecokppaaDoor

/- The reference's table of statements' fields. -/
namespace Go.Proofs.YtgobcldecokppaaDoor
open Go.RowKit

end Go.Proofs.YtgobcldecokppaaDoor

namespace Go.Proofs.YtgobcldecokppaaDoor
open Go.RowKit

theorem least_any (n : Int) (a : Option Addr) (m cap : Nat) (W : World) : Calls Tryd.prog 66 #[.agg #[.int .i64 n, .slice a m cap]] W (Gives (.bool (n == leastI)) W) := by
  have Hl : Hid (leastI = -9223372036854775808) := rfl
  by_cases h : n = -9223372036854775808
  · have hq : Hid ((n == leastI) = true) := by show _ = _; simp [h, leastI]
    go_enter Tryd.func66, Tryd.ntmps66
    go_wp2_with fail
    go_ret
    exact ⟨by rw [hq.out]; rfl, (Below.refl _ _).alloc (Nat.le_refl _) _⟩
  · have hq : Hid ((n == leastI) = false) := by show _ = _; simp [leastI, h]
    have hb : (n == -9223372036854775808) = false := by simp [h]
    go_enter Tryd.func66, Tryd.ntmps66
    go_wp2_with fail
    go_ret
    exact ⟨by rw [hq.out]; rfl, (Below.refl _ _).alloc (Nat.le_refl _) _⟩
theorem lowest_take {l : List Cs} {i : Nat} {y : Cs} (h : l[i]? = some y) : lowestB (l.take (i + 1)) = (lowestB (l.take i) || (y.n == leastI)) := by rw [take_next h]; simp [lowestB]
theorem lowest_hit {l : List Cs} {i : Nat} {y : Cs} (h : l[i]? = some y) (hy : (y.n == leastI) = true) : lowestB l = true := by
  unfold lowestB
  rw [List.any_eq_true]
  exact ⟨y, List.mem_of_getElem? h, hy⟩
set_option maxHeartbeats 1000000 in
theorem index_any (l : List Cs) (v : Value) (vk : Nat → Value) (W : World) (h : RowOf W v l.length 2 (fun b o i => ∀ y, l[i]? = some y → CsAt W b o y (vk i))) (hf : ∀ (i : Nat) y, l[i]? = some y → ∃ a m cap, vk i = .slice a m cap) :
    Calls Tryd.prog 72 #[v, .func (.func 66) #[] #[]] W (fun e W' => ∃ r : Int, e = .returned (.int .i64 r) ∧ decide (0 ≤ r) = lowestB l ∧ Below W.heap.size W W') := by
  obtain ⟨a, cap, rfl, hncap, hcap⟩ := h.form
  obtain ⟨n, hn⟩ : ∃ n, n = l.length := ⟨_, rfl⟩
  have Hn := Lib.hid hn
  have Hrow : Hid (RowOf W (.slice a n cap) l.length 2 (fun b o i => ∀ y, l[i]? = some y → CsAt W b o y (vk i))) := by rw [hn]; exact h
  have Hf := Lib.hid hf
  rw [← hn]
  rw [← hn] at hncap
  have hn62 : n ≤ 9223372036854775807 := by have : maxLen ≤ 9223372036854775807 := by decide
                                            omega
  clear h hf hn
  go_enter Tryd.func72, Tryd.ntmps72
  go_wp2_with fail
  go_loopg [5, 8] n (fun g _ iv wx => ∃ i : Nat, g = n - i ∧ iv = .int .i64 (i : Int) ∧ i ≤ n ∧ lowestB (l.take i) = false ∧ Below W.heap.size W wx)
  case atStart => exact ⟨0, rfl, rfl, Nat.zero_le _, rfl, Below.refl _ _⟩
  case round =>
    obtain ⟨i, hg, rfl, hi, hp, hO⟩ := hrel
    have HK := Lib.hid (And.intro hp hO)
    have Hg := Lib.hid hg
    clear hp hg
    by_cases hin : i < n
    · obtain ⟨y, hy⟩ : ∃ y, l[i]? = some y := ⟨_, List.getElem?_eq_getElem (by rw [← Hn.out]; exact hin)⟩
      obtain ⟨b, off, rfl, hb, hP⟩ := Hrow.out.at (i := i) (by rw [← Hn.out]; exact hin)
      have hcs := (hP y hy).later hO hb
      obtain ⟨a', m', cap', hv⟩ := Hf.out i y hy
      rw [hv] at hcs
      obtain ⟨c0, c1⟩ := hcs
      have Hy := Lib.hid hy
      clear hy hP hv hO
      go_wp2_with fail
      refine (least_any _ _ _ _ _).mono ?_
      rintro e w2 ⟨rfl, hb2⟩
      obtain ⟨z, hz⟩ : ∃ z, z = (y.n == leastI) := ⟨_, rfl⟩
      have Hz := Lib.hid hz
      rw [← hz]
      have Hb2 := Lib.hid (HK.out.2.trans (hb2.mono HK.out.2.size))
      clear hz hb2 c0 c1
      cases z
      · go_wp2_with fail
        go_roundg (n - (i + 1))
        case measure => have := Hg.out; omega
        case rel => exact ⟨i + 1, rfl, by go_num, hin, by rw [lowest_take Hy.out, HK.out.1, ← Hz.out]; rfl, Hb2.out⟩
      · go_wp2_with fail
        go_ret
        exact ⟨i, rfl, by rw [lowest_hit Hy.out Hz.out.symm]; simp, Hb2.out⟩
    · obtain rfl : n = i := by omega
      have Hres : Hid (lowestB l = false) := by
        show _ = _
        have h := HK.out.1
        rw [List.take_of_length_le (by rw [← Hn.out]; exact Nat.le_refl _)] at h
        exact h
      clear hO hin
      go_wp2_with fail
      go_ret
      exact ⟨-1, rfl, by rw [Hres.out]; rfl, HK.out.2⟩
theorem contains_any (l : List Cs) (v : Value) (vk : Nat → Value) (W : World) (h : RowOf W v l.length 2 (fun b o i => ∀ y, l[i]? = some y → CsAt W b o y (vk i))) (hf : ∀ (i : Nat) y, l[i]? = some y → ∃ a m cap, vk i = .slice a m cap) :
    Calls Tryd.prog 65 #[v, .func (.func 66) #[] #[]] W (Gives (.bool (lowestB l)) W) := by
  obtain ⟨a, cap, rfl, -⟩ := h.form
  have H := Lib.hid (And.intro h hf)
  clear h hf
  go_enter Tryd.func65, Tryd.ntmps65
  go_wp2_with fail
  refine (index_any l _ vk W H.out.1 H.out.2).mono ?_
  rintro e w2 ⟨r, rfl, hr, hb⟩
  have Hr := Lib.hid (And.intro hr hb)
  clear hr hb
  by_cases h0 : 0 ≤ r
  · have hq : Hid (lowestB l = true) := by show _ = _; rw [← Hr.out.1]; exact decide_eq_true h0
    go_wp2_with fail
    go_ret
    exact ⟨by rw [hq.out]; simp, Hr.out.2⟩
  · have hq : Hid (lowestB l = false) := by show _ = _; rw [← Hr.out.1]; exact decide_eq_false h0
    go_wp2_with fail
    go_ret
    exact ⟨by rw [hq.out]; simp [h0], Hr.out.2⟩
end Go.Proofs.YtgobcldecokppaaDoor
