/- What is wrong with an expression, and the tables of kinds. -/
import Derived.Test.YtneibcpgengdnaaTrRName
import Derived.OwnWalk
namespace Go.Proofs.Ytneibcpgengdnaa
open Go.RowKit

def arityN (k : Int) : Int := if k = 1 ∨ k = 2 then 0 else if k = 3 ∨ k = 5 ∨ k = 6 then 1 else if k = 4 then -1 else if k = 20 then 3 else 2
def namedB (k : Int) : Bool := decide (k = 2 ∨ k = 3 ∨ k = 4)
def kindB (k : Int) : Bool := decide (1 ≤ k ∧ k ≤ 20)
def Ex.badForm (x : Ex) : Bool := !kindB x.kind || (decide (0 ≤ arityN x.kind) && decide ((x.args.length : Int) ≠ arityN x.kind)) || (decide (x.n ≠ 0) && decide (x.kind ≠ 1)) || (decide (x.name.toList ≠ []) && !namedB x.kind)
/-- What is wrong with an expression itself. -/
def Ex.own (x : Ex) (level : Int) : Int := if 32 < level then 20 else if x.badForm = true then 5 else if (namedB x.kind && !nameB x.name) = true then 8 else if x.n < 0 then 1 else 0
mutual
/-- What is wrong first with an expression. -/
def Ex.err : Ex → Int → Int
  | .mk k n s l, level => if Ex.own (.mk k n s l) level ≠ 0 then Ex.own (.mk k n s l) level else Ex.errs l (level + 1)
def Ex.errs : List Ex → Int → Int
  | [], _ => 0
  | x :: l, level => if Ex.err x level ≠ 0 then Ex.err x level else Ex.errs l level
end
theorem Ex.err_eq (x : Ex) (level : Int) : x.err level = if x.own level ≠ 0 then x.own level else Ex.errs x.args (level + 1) := by cases x; simp only [Ex.err, Ex.args]
theorem Ex.errs_stop {l : List Ex} {level : Int} {i : Nat} {x : Ex} (h : l[i]? = some x) (hn : ∀ j y, j < i → l[j]? = some y → y.err level = 0) (he : x.err level ≠ 0) : Ex.errs l level = x.err level := by
  induction l generalizing i with
  | nil => simp at h
  | cons y l ih =>
    cases i with
    | zero => simp at h; subst h; simp [Ex.errs, he]
    | succ i =>
      have h0 := hn 0 y (by omega) rfl
      simp only [Ex.errs, h0]
      simpa using ih (by simpa using h) (fun j z hj hz => hn (j + 1) z (by omega) (by simpa using hz))
theorem Ex.errs_none {l : List Ex} {level : Int} (hn : ∀ (j : Nat) y, l[j]? = some y → y.err level = 0) : Ex.errs l level = 0 := by
  induction l with
  | nil => simp [Ex.errs]
  | cons y l ih =>
    have h0 := hn 0 y rfl
    simp only [Ex.errs, h0]
    simpa using ih (fun j z hz => hn (j + 1) z (by simpa using hz))
theorem arity_any (k : Int) (W : World) : Calls Try.prog 83 #[.int .i64 k] W (fun e W' => e = .returned (.tuple #[.int .i64 (arityN k), .bool (namedB k), .bool (kindB k)]) ∧ W = W') := by
  have key : ∀ (a : Int) (n b : Bool), arityN k = a → namedB k = n → kindB k = b → Ending.returned (.tuple #[.int .i64 a, .bool n, .bool b]) = Ending.returned (.tuple #[.int .i64 (arityN k), .bool (namedB k), .bool (kindB k)]) := by
    rintro _ _ _ rfl rfl rfl; rfl
  have Key := Lib.hid key
  clear key
  by_cases h1 : k = 1
  · subst h1; go_enter Try.func83, Try.ntmps83; go_wp2_with fail; go_ret3; exact ⟨rfl, rfl⟩
  by_cases h2 : k = 2
  · subst h2; go_enter Try.func83, Try.ntmps83; go_wp2_with fail; go_ret3; exact ⟨rfl, rfl⟩
  by_cases h3 : k = 3
  · subst h3; go_enter Try.func83, Try.ntmps83; go_wp2_with fail; go_ret3; exact ⟨rfl, rfl⟩
  by_cases h4 : k = 4
  · subst h4; go_enter Try.func83, Try.ntmps83; go_wp2_with fail; go_ret3; exact ⟨rfl, rfl⟩
  by_cases h5 : k = 5
  · subst h5; go_enter Try.func83, Try.ntmps83; go_wp2_with fail; go_ret3; exact ⟨rfl, rfl⟩
  by_cases h6 : k = 6
  · subst h6; go_enter Try.func83, Try.ntmps83; go_wp2_with fail; go_ret3; exact ⟨rfl, rfl⟩
  by_cases h20 : k = 20
  · subst h20; go_enter Try.func83, Try.ntmps83; go_wp2_with fail; go_ret3; exact ⟨rfl, rfl⟩
  by_cases h7 : 7 ≤ k <;> by_cases h19 : k ≤ 19
  all_goals
    have ha : Hid (arityN k = 2) := by show _ = _; simp [arityN]; omega
    have hn : Hid (namedB k = false) := by show _ = _; simp [namedB, h2, h3, h4]
  · have hb : Hid (kindB k = true) := by show _ = _; simp [kindB]; omega
    go_enter Try.func83, Try.ntmps83; go_wp2_with fail; go_ret3; exact ⟨Key.out _ _ _ ha.out hn.out hb.out, rfl⟩
  all_goals
    have hb : Hid (kindB k = false) := by show _ = _; simp [kindB]; omega
    first
    | (exfalso; omega)
    | (go_enter Try.func83, Try.ntmps83; go_wp2_with fail; go_ret3; exact ⟨Key.out _ _ _ ha.out hn.out hb.out, rfl⟩)
def argsN (k : Int) : Int := if kindB k = true then arityN k else -2
theorem args_any (k : Int) (W : World) : Calls Try.prog 112 #[.int .i64 k] W (fun e W' => e = .returned (.int .i64 (argsN k)) ∧ W = W') := by
  by_cases h1 : k = 1
  · subst h1; go_enter Try.func112, Try.ntmps112; go_wp2_with fail; go_ret; exact ⟨rfl, rfl⟩
  by_cases h2 : k = 2
  · subst h2; go_enter Try.func112, Try.ntmps112; go_wp2_with fail; go_ret; exact ⟨rfl, rfl⟩
  by_cases h3 : k = 3
  · subst h3; go_enter Try.func112, Try.ntmps112; go_wp2_with fail; go_ret; exact ⟨rfl, rfl⟩
  by_cases h4 : k = 4
  · subst h4; go_enter Try.func112, Try.ntmps112; go_wp2_with fail; go_ret; exact ⟨rfl, rfl⟩
  by_cases h5 : k = 5
  · subst h5; go_enter Try.func112, Try.ntmps112; go_wp2_with fail; go_ret; exact ⟨rfl, rfl⟩
  by_cases h6 : k = 6
  · subst h6; go_enter Try.func112, Try.ntmps112; go_wp2_with fail; go_ret; exact ⟨rfl, rfl⟩
  by_cases h20 : k = 20
  · subst h20; go_enter Try.func112, Try.ntmps112; go_wp2_with fail; go_ret; exact ⟨rfl, rfl⟩
  have b1 : (k == 1) = false := by simp [h1]
  have b2 : (k == 2) = false := by simp [h2]
  have b3 : (k == 3) = false := by simp [h3]
  have b4 : (k == 4) = false := by simp [h4]
  have b5 : (k == 5) = false := by simp [h5]
  have b6 : (k == 6) = false := by simp [h6]
  have b20 : (k == 20) = false := by simp [h20]
  by_cases h7 : 7 ≤ k <;> by_cases h19 : k ≤ 19
  · have hb : Hid (argsN k = 2) := by
      show _ = _
      have h : kindB k = true := by simp [kindB]; omega
      have h' : arityN k = 2 := by simp [arityN]; omega
      simp [argsN, h, h']
    go_enter Try.func112, Try.ntmps112; go_wp2_with fail; go_ret; exact ⟨by rw [hb.out]; rfl, rfl⟩
  all_goals
    have hb : Hid (argsN k = -2) := by
      show _ = _
      have h : kindB k = false := by simp [kindB]; omega
      simp [argsN, h]
    go_enter Try.func112, Try.ntmps112; go_wp2_with fail; go_ret; exact ⟨by rw [hb.out]; rfl, rfl⟩
theorem named_any (k : Int) (W : World) : Calls Try.prog 113 #[.int .i64 k] W (fun e W' => e = .returned (.bool (namedB k)) ∧ W = W') := by
  by_cases h2 : k = 2
  · subst h2; go_enter Try.func113, Try.ntmps113; go_wp2_with fail; go_ret; exact ⟨rfl, rfl⟩
  by_cases h3 : k = 3
  · subst h3; go_enter Try.func113, Try.ntmps113; go_wp2_with fail; go_ret; exact ⟨rfl, rfl⟩
  by_cases h4 : k = 4
  · subst h4; go_enter Try.func113, Try.ntmps113; go_wp2_with fail; go_ret; exact ⟨rfl, rfl⟩
  have b2 : (k == 2) = false := by simp [h2]
  have b3 : (k == 3) = false := by simp [h3]
  have b4 : (k == 4) = false := by simp [h4]
  have hn : Hid (namedB k = false) := by show _ = _; simp [namedB, h2, h3, h4]
  go_enter Try.func113, Try.ntmps113; go_wp2_with fail; go_ret; exact ⟨by rw [hn.out]; rfl, rfl⟩
end Go.Proofs.Ytneibcpgengdnaa
