/- What is wrong with an expression, and the tables of kinds. -/
import Derived.Test.YtgobcldecokppaaDoorTrSts
import Derived.OwnWalk
/- R2.Nodes: statements counted. -/
namespace Go.Proofs.YtgobcldecokppaaDoor
open Go.RowKit

/-- r counts t parts, or is more than left. -/
def Acc (t : Nat) (left : Int) (s r : Nat) : Prop := ((t : Int) ≤ left → r = t) ∧ (left < t → left < r ∧ (r : Int) ≤ left + s)
def CutN (t : Nat) (left : Int) (r : Nat) : Prop := (left < 0 → r = 0) ∧ (0 ≤ left → Acc t left 3 r)
theorem Acc.ex {t r s : Nat} {left : Int} (h : Acc t left s r) (ta : Nat) : Acc (t + (1 + ta)) left (s + 1) (r + (1 + leftN ta (left - r - 1))) := by unfold leftN Acc at *; omega
theorem Acc.more {t r s : Nat} {left : Int} (h : Acc t left s r) {s' : Nat} (hs : s ≤ s') : Acc t left s' r := by unfold Acc at *; omega
/-- Some more parts, counted by themselves. -/
theorem Acc.sub {t r : Nat} {left : Int} (h : Acc t left 3 r) {ta ra : Nat} (ha : CutN ta (left - r) ra) : Acc (t + ta) left 3 (r + ra) := by
  unfold CutN Acc at *
  omega
theorem CutN.zero (left : Int) : CutN 0 left 0 := by unfold CutN Acc; omega
end Go.Proofs.YtgobcldecokppaaDoor

/- tree.Nodes and R2.Nodes. -/
namespace Go.Proofs.YtgobcldecokppaaDoor
open Go.RowKit

def Fn.count : List Fn → Nat
  | [] => 0
  | f :: l => St.totals f.body + Fn.count l
theorem Fn.count_snoc (l : List Fn) (x : Fn) : Fn.count (l ++ [x]) = Fn.count l + St.totals x.body := by
  induction l with
  | nil => simp [Fn.count]
  | cons y l ih => simp only [List.cons_append, Fn.count, ih]; omega
theorem Fn.count_take {l : List Fn} {i : Nat} {x : Fn} (h : l[i]? = some x) : Fn.count (l.take (i + 1)) = Fn.count (l.take i) + St.totals x.body := by rw [take_next h, Fn.count_snoc]
theorem Fn.count_le {l : List Fn} (i : Nat) : Fn.count (l.take i) ≤ Fn.count l := by
  induction l generalizing i with
  | nil => simp
  | cons y l ih => cases i with
    | zero => simp [Fn.count]
    | succ i => simp only [List.take_succ_cons, Fn.count]; have := ih i; omega
set_option maxRecDepth 100000 in
set_option maxHeartbeats 2000000 in
theorem nodes_any (p : Pg) (vw vf : Value) (vp vb : Nat → Value) (w : World) (h : PgIn w p vw vf vp vb) : Calls Tryd.prog 46 #[pgV vw vf] w (Gives (.int .i64 (upto (Fn.count p.funcs) : Nat)) w) := by
  obtain ⟨hw, hr, hpp, hbb⟩ := h
  obtain ⟨-, aw, cw, rfl, -⟩ := hw
  obtain ⟨a, cap, rfl, hncap, hcap⟩ := hr.form
  obtain ⟨n, hn⟩ : ∃ n, n = p.funcs.length := ⟨_, rfl⟩
  have hn62 : n ≤ 9223372036854775807 := by have : maxLen ≤ 9223372036854775807 := by decide
                                            omega
  obtain ⟨nw, hnw⟩ : ∃ n, n = p.widen.length := ⟨_, rfl⟩
  have Hn := Lib.hid hn
  have Hrow : Hid (RowOf w (.slice a n cap) p.funcs.length 3 (fun b o i => ∀ x, p.funcs[i]? = some x → FnCells w b o x (vp i) (vb i))) := by rw [hn]; exact hr
  have Hf := Lib.hid (And.intro hpp hbb)
  obtain ⟨W0, hW0⟩ : ∃ W0, W0 = (w.alloc (.cells #[.slice aw nw cw, .slice a n cap] 25)).alloc (.cells #[.int .i64 0] 125) := ⟨_, rfl⟩
  have hs0 : W0.heap.size = w.heap.size + 2 := by rw [hW0]; simp
  have hb0 : Below w.heap.size w W0 := by rw [hW0]; exact ((Below.refl _ _).alloc (Nat.le_refl _) _).alloc (by (try simp only [World.size_alloc]); (try simp only [size_set]); omega) _
  have hc0 : CAt W0 (w.heap.size + 1) 0 := by
    rw [hW0]
    refine ⟨?_, ?_, by omega⟩
    · exact World.cell?_alloc_at _ _ _ _ (by simp)
    · exact World.frozen?_alloc_at _ _ _ _ (by simp)
  have H0 := Lib.hid (And.intro hs0 (And.intro hb0 hc0))
  have HW0 := Lib.hid hW0
  rw [← hn] at hncap ⊢
  rw [← hnw]
  unfold pgV
  clear hr hpp hbb hn hnw hs0 hb0 hc0 hW0
  go_enter Tryd.func46, Tryd.ntmps46
  go_wp2_with fail
  rw [← HW0.out]
  obtain ⟨c, hc⟩ : ∃ c, c = w.heap.size + 1 := ⟨_, rfl⟩
  rw [← hc] at H0 ⊢
  have hcw : w.heap.size < c := by omega
  have hcW : c < W0.heap.size := by have := H0.out.1; omega
  clear hc HW0
  go_loopg [9] n (fun g iv wx => ∃ i : Nat, g = n - i ∧ iv = .int .i64 (i : Int) ∧ i ≤ n ∧ CAt wx c (upto (Fn.count (p.funcs.take i))) ∧ Oth (· = c) W0 wx)
  case atStart => exact ⟨0, rfl, rfl, Nat.zero_le _, by simpa [Fn.count, upto] using H0.out.2.2, Oth.refl _ _⟩
  case round =>
    obtain ⟨i, hg, rfl, hi, hC, hO⟩ := hrel
    have HO := Lib.hid hO
    have hB : Below w.heap.size w wr := H0.out.2.1.trans (hO.below (by omega) fun _ e => by omega)
    by_cases hin : i < n
    · obtain ⟨x, hx⟩ : ∃ x, p.funcs[i]? = some x := ⟨_, List.getElem?_eq_getElem (by rw [← Hn.out]; exact hin)⟩
      obtain ⟨b, off, rfl, hb, hP⟩ := Hrow.out.at (i := i) (by rw [← Hn.out]; exact hin)
      have hfc := (hP x hx).later hB hb
      obtain ⟨ap, cp, hvp, -⟩ := (Hf.out.1 i x hx).form
      obtain ⟨ab, cb, hvb, -⟩ := (Hf.out.2 i x hx).form
      have hct := stmts_any _ _ _ (Hf.out.2 i x hx)
      obtain ⟨np, hnp⟩ : ∃ n, n = x.params.length := ⟨_, rfl⟩
      obtain ⟨nb, hnb⟩ : ∃ n, n = x.body.length := ⟨_, rfl⟩
      rw [hvb, ← hnb] at hct
      rw [hvp, hvb, ← hnp, ← hnb] at hfc
      obtain ⟨i0, i1, i2⟩ := hfc
      obtain ⟨W1, hW1⟩ : ∃ W1, W1 = wr.alloc (.cells #[.string x.name, .slice ap np cp, .slice ab nb cb] 40) := ⟨_, rfl⟩
      have hC1 : CAt W1 c (upto (Fn.count (p.funcs.take i))) := by rw [hW1]; exact hC.later ((Below.refl _ _).alloc (Nat.le_refl _) _)
      have hO1 : Oth (· = c) wr W1 := by rw [hW1]; exact (Oth.refl _ _).alloc _
      have hB1 : Below w.heap.size w W1 := hB.trans (hO1.below hB.size fun _ e => by omega)
      have H1 := Lib.hid (And.intro hC1 (And.intro hO1 (And.intro hB1 (And.intro hct hx))))
      have HW1 := Lib.hid hW1
      have q0 := hB.size
      have Hg := Lib.hid hg
      clear hC hO hB hP hx hct hvp hvb hnp hnb hC1 hO1 hB1 hW1 hg
      go_wp2_with fail
      rw [← HW1.out]
      refine (H1.out.2.2.2.1 W1 c _ H1.out.2.2.1 (by omega) H1.out.1).mono ?_
      rintro e w3 ⟨rfl, hC3, hO3⟩
      rw [upto_add] at hC3
      have H3 := Lib.hid (And.intro hC3 (H1.out.2.1.trans hO3))
      clear hC3 hO3 i0 i1 i2
      go_wp2_with fail
      go_roundg (n - (i + 1))
      case measure => have := Hg.out; omega
      case rel => exact ⟨i + 1, rfl, by go_num, hin, by rw [Fn.count_take H1.out.2.2.2.2]; exact H3.out.1, HO.out.trans H3.out.2⟩
    · obtain rfl : n = i := by omega
      have Hres : Hid (Fn.count (p.funcs.take n) = Fn.count p.funcs) := by show _ = _; rw [List.take_of_length_le (by rw [← Hn.out]; exact Nat.le_refl _)]
      have hcell := hC.cell
      have hle := upto_le (Fn.count (p.funcs.take n))
      rw [Hres.out] at hcell hle
      obtain ⟨r, hr⟩ : ∃ r, r = upto (Fn.count p.funcs) := ⟨_, rfl⟩
      rw [← hr] at hcell hle
      have HB := Lib.hid hB
      have Hr := Lib.hid hr
      clear hin hC hO hB hr
      go_wp2_with fail
      go_ret
      exact ⟨by rw [← Hr.out]; rfl, HB.out⟩
end Go.Proofs.YtgobcldecokppaaDoor

/- scan.Name and R1.Name: may a text be a name? -/
namespace Go.Proofs.YtgobcldecokppaaDoor
open Go.RowKit

def isLet (c : Int) : Bool := decide (97 ≤ c) && decide (c ≤ 122)
def isDig (c : Int) : Bool := decide (48 ≤ c) && decide (c ≤ 57)
theorem letter_any (c : Int) (W : World) : Calls Tryd.prog 61 #[.int .u8 c] W (fun e W' => e = .returned (.bool (isLet c)) ∧ W = W') := by
  by_cases h1 : (97 : Int) ≤ c <;> by_cases h2 : c ≤ 122
  all_goals
    go_enter Tryd.func61, Tryd.ntmps61
    go_wp2_with fail
    go_ret
    refine ⟨?_, rfl⟩
    simp [isLet, h1, h2]
theorem digit_any (c : Int) (W : World) : Calls Tryd.prog 71 #[.int .u8 c] W (fun e W' => e = .returned (.bool (isDig c)) ∧ W = W') := by
  by_cases h1 : (48 : Int) ≤ c <;> by_cases h2 : c ≤ 57
  all_goals
    go_enter Tryd.func71, Tryd.ntmps71
    go_wp2_with fail
    go_ret
    refine ⟨?_, rfl⟩
    simp [isDig, h1, h2]
def isAl (c : Int) : Bool := isLet c || isDig c
theorem alnum_any (c : Int) (W : World) : Calls Tryd.prog 63 #[.int .u8 c] W (fun e W' => e = .returned (.bool (isAl c)) ∧ W = W') := by
  go_enter Tryd.func63, Tryd.ntmps63
  go_wp2_with fail
  refine (letter_any c W).mono ?_
  rintro e w ⟨rfl, hw⟩
  rw [← hw]
  clear hw
  obtain ⟨z, hz⟩ : ∃ z, z = isLet c := ⟨_, rfl⟩
  have Hz := Lib.hid hz
  rw [← hz]
  clear hz
  cases z
  · go_wp2_with fail
    refine (digit_any c W).mono ?_
    rintro e w ⟨rfl, hw⟩
    rw [← hw]
    clear hw
    go_wp2_with fail
    go_ret
    exact ⟨by simp only [isAl, ← Hz.out]; rfl, rfl⟩
  · go_wp2_with fail
    go_ret
    exact ⟨by simp only [isAl, ← Hz.out]; rfl, rfl⟩
/-- The number of the byte at a place. -/
def byteN (s : ByteArray) (i : Nat) : Int := if h : i < s.size then ((s[i]'h).toNat : Int) else 0
theorem byteN_eq {s : ByteArray} {i : Nat} (h : i < s.size) : ((s[i]'h).toNat : Int) = byteN s i := by unfold byteN; rw [dif_pos h]
def allAl (s : ByteArray) : Prop := ∀ i, i < s.size → isAl (byteN s i) = true
/-- Where the row of letters and digits ends that begins at a place. -/
theorem row_any (s : ByteArray) (W : World) (hs : s.size ≤ 16) : Calls Tryd.prog 62 #[.string s, .int .i64 0, .func (.func 63) #[] #[]] W (fun e W' => ∃ k : Nat, e = .returned (.int .i64 (k : Int)) ∧ W = W' ∧ k ≤ s.size ∧ (∀ i, i < k → isAl (byteN s i) = true) ∧ (k < s.size → isAl (byteN s k) = false)) := by
  go_enter Tryd.func62, Tryd.ntmps62
  go_wp2_with fail
  go_loopg [1] s.size (fun g iv wx => ∃ i : Nat, g = s.size - i ∧ iv = .int .i64 (i : Int) ∧ i ≤ s.size ∧ (∀ j, j < i → isAl (byteN s j) = true) ∧ wx = W)
  case atStart => exact ⟨0, rfl, rfl, Nat.zero_le _, fun j h => by omega, rfl⟩
  case round =>
    obtain ⟨i, hg, rfl, hi, hp, rfl⟩ := hrel
    have Hp := Lib.hid hp
    clear hp
    by_cases hin : i < s.size
    · go_wp2_with fail
      refine (alnum_any _ _).mono ?_
      rintro e w1 ⟨rfl, hw⟩
      rw [← hw, byteN_eq hin]
      clear hw
      obtain ⟨z, hz⟩ : ∃ z, z = isAl (byteN s i) := ⟨_, rfl⟩
      have Hz := Lib.hid hz
      rw [← hz]
      clear hz
      cases z
      · go_wp2_with fail
        go_ret
        exact ⟨i, rfl, rfl, by omega, Hp.out, fun _ => Hz.out.symm⟩
      · go_wp2_with fail
        go_roundg (s.size - (i + 1))
        case measure => omega
        case rel => exact ⟨i + 1, rfl, by go_num, hin, fun j hj => by
          by_cases e : j = i
          · subst e; exact Hz.out.symm
          · exact Hp.out j (by omega), rfl⟩
    · go_wp2_with fail
      go_ret
      exact ⟨i, rfl, rfl, by omega, Hp.out, fun h => absurd h hin⟩
def wordsL : List (List UInt8) := [[119, 105, 100, 101, 110], [102, 110], [108, 101, 116], [102, 111, 114], [105, 110], [105, 102], [101, 108, 115, 101], [115, 119, 105, 116, 99, 104], [99, 97, 115, 101], [98, 114, 101, 97, 107], [114, 101, 116, 117, 114, 110]]
def wordB (s : ByteArray) : Bool := decide (s.toList ∈ wordsL)
theorem word_any (s : ByteArray) (W : World) : Calls Tryd.prog 64 #[.string s] W (fun e W' => e = .returned (.bool (wordB s)) ∧ W = W') := by
  have hw : wordB s = decide (s.toList ∈ wordsL) := rfl
  unfold wordsL at hw
  simp only [List.mem_cons, List.not_mem_nil, or_false] at hw
  have Hw := Lib.hid hw
  clear hw
  go_enter Tryd.func64, Tryd.ntmps64
  go_wp2_with fail
  all_goals
    go_ret
    refine ⟨?_, rfl⟩
    rw [Hw.out]
    simp_all
/-- May a text be a name? -/
def nameB (s : ByteArray) : Bool := decide (s.size ≤ 16) && decide (0 < s.size) && isLet (byteN s 0) && (List.range s.size).all (fun i => isAl (byteN s i)) && !wordB s
theorem empty_iff (s : ByteArray) : (s.toList == []) = decide (s.size = 0) := by
  have h1 : s.size = s.toList.length := by rw [ByteArray.toList_eq s, Array.length_toList]; rfl
  rw [h1]
  cases s.toList <;> rfl
theorem all_al {s : ByteArray} : (List.range s.size).all (fun i => isAl (byteN s i)) = true ↔ ∀ i, i < s.size → isAl (byteN s i) = true := by simp [List.all_eq_true]
set_option maxHeartbeats 1000000 in
theorem name_any (s : ByteArray) (W : World) : Calls Tryd.prog 53 #[.string s] W (fun e W' => e = .returned (.bool (nameB s)) ∧ W = W') := by
  have he := empty_iff s
  by_cases h0 : s.size = 0
  · have hq : s.toList = [] := by simpa [h0] using he
    have Hres : Hid (nameB s = false) := by show _ = _; simp [nameB, h0]
    clear he h0
    go_enter Tryd.func53, Tryd.ntmps53
    go_wp2_with fail
    go_ret
    exact ⟨by rw [Hres.out]; rfl, rfl⟩
  · have hq : ¬ s.toList = [] := by simpa [h0] using he
    have h1 : 0 < s.size := by omega
    have hq2 : s.toList.isEmpty = false := by simp [hq]
    obtain ⟨z, hz⟩ : ∃ z, z = isLet (byteN s 0) := ⟨_, rfl⟩
    have Hz := Lib.hid hz
    have hby := byteN_eq h1
    have Hby := Lib.hid hby
    clear he hz hby h0
    go_enter Tryd.func53, Tryd.ntmps53
    go_wp2_with fail
    refine (letter_any _ _).mono ?_
    rintro e w1 ⟨rfl, hw⟩
    rw [← hw, Hby.out, ← Hz.out]
    clear hw
    cases z
    · have Hres : Hid (nameB s = false) := by show _ = _; simp [nameB, ← Hz.out]
      go_wp2_with fail
      go_ret
      exact ⟨by rw [Hres.out]; rfl, rfl⟩
    · by_cases h2 : s.size ≤ 16
      · have hq3 : decide ((16 : Int) < s.size) = false := by simp; omega
        go_wp2_with fail
        refine (row_any s _ h2).mono ?_
        rintro e w1 ⟨k, rfl, hw, hk, hal, hno⟩
        rw [← hw]
        have HR := Lib.hid (And.intro hal hno)
        clear hw hal hno
        by_cases hks : k = s.size
        · obtain ⟨b, hb⟩ : ∃ b, b = wordB s := ⟨_, rfl⟩
          have Hb := Lib.hid hb
          have Hres : Hid (nameB s = !b) := by
            show _ = _
            have : (List.range s.size).all (fun i => isAl (byteN s i)) = true := all_al.2 (by rw [← hks]; exact HR.out.1)
            simp [nameB, ← Hz.out, h1, h2, ← hb, this]
          subst hks
          clear hb
          go_wp2_with fail
          refine (word_any s _).mono ?_
          rintro e w1 ⟨rfl, hw⟩
          rw [← hw, ← Hb.out]
          clear hw
          go_wp2_with fail
          go_ret
          exact ⟨by rw [Hres.out]; rfl, rfl⟩
        · have hkl : k < s.size := by omega
          have Hres : Hid (nameB s = false) := by
            show _ = _
            have : ¬ (List.range s.size).all (fun i => isAl (byteN s i)) = true := fun h => by
              have := all_al.1 h k hkl
              rw [HR.out.2 hkl] at this
              cases this
            simp only [Bool.not_eq_true] at this
            simp [nameB, this]
          go_wp2_with fail
          go_ret
          exact ⟨by rw [Hres.out]; rfl, rfl⟩
      · have Hres : Hid (nameB s = false) := by show _ = _; simp [nameB, h2]
        go_wp2_with fail
        go_ret
        exact ⟨by rw [Hres.out]; rfl, rfl⟩
end Go.Proofs.YtgobcldecokppaaDoor

/- R1.Name: may a text be a name? -/
namespace Go.Proofs.YtgobcldecokppaaDoor
open Go.RowKit

def wordsS : List ByteArray := wordsL.map (fun l => ⟨l.toArray⟩)
def plainB (s : ByteArray) : Bool := decide (0 < s.size) && isLet (byteN s 0) && (List.range s.size).all (fun i => isAl (byteN s i))
end Go.Proofs.YtgobcldecokppaaDoor

namespace Go.Proofs.YtgobcldecokppaaDoor
open Go.RowKit

def arityN (k : Int) : Int := if k = 1 ∨ k = 2 then 0 else if k = 3 ∨ k = 5 ∨ k = 6 then 1 else if k = 4 then -1 else if k = 20 then 3 else 2
def namedB (k : Int) : Bool := decide (k = 2 ∨ k = 3 ∨ k = 4)
def kindB (k : Int) : Bool := decide (1 ≤ k ∧ k ≤ 20)
def Ex.badForm (x : Ex) : Bool := !kindB x.kind || (decide (0 ≤ arityN x.kind) && decide ((x.args.length : Int) ≠ arityN x.kind)) || (decide (x.n ≠ 0) && decide (x.kind ≠ 1)) || (decide (x.name.toList ≠ []) && !namedB x.kind)
/-- What is wrong with an expression itself. -/
def Ex.own (x : Ex) (level : Int) : Int := if 32 < level then 20 else if x.badForm = true then 5 else if (namedB x.kind && !nameB x.name) = true then 8 else if x.n < 0 then 1 else 0
mutual
/-- What is wrong first with an expression. -/
def Ex.err : Ex → Int → Int
  | .mk k n s l, level => if Ex.own (.mk k n s l) level ≠ 0 then Ex.own (.mk k n s l) level else Ex.errs l (level + 1)
def Ex.errs : List Ex → Int → Int
  | [], _ => 0
  | x :: l, level => if Ex.err x level ≠ 0 then Ex.err x level else Ex.errs l level
end
theorem Ex.err_eq (x : Ex) (level : Int) : x.err level = if x.own level ≠ 0 then x.own level else Ex.errs x.args (level + 1) := by cases x; simp only [Ex.err, Ex.args]
theorem Ex.errs_stop {l : List Ex} {level : Int} {i : Nat} {x : Ex} (h : l[i]? = some x) (hn : ∀ j y, j < i → l[j]? = some y → y.err level = 0) (he : x.err level ≠ 0) : Ex.errs l level = x.err level := by
  induction l generalizing i with
  | nil => simp at h
  | cons y l ih =>
    cases i with
    | zero => simp at h; subst h; simp [Ex.errs, he]
    | succ i =>
      have h0 := hn 0 y (by omega) rfl
      simp only [Ex.errs, h0]
      simpa using ih (by simpa using h) (fun j z hj hz => hn (j + 1) z (by omega) (by simpa using hz))
theorem Ex.errs_none {l : List Ex} {level : Int} (hn : ∀ (j : Nat) y, l[j]? = some y → y.err level = 0) : Ex.errs l level = 0 := by
  induction l with
  | nil => simp [Ex.errs]
  | cons y l ih =>
    have h0 := hn 0 y rfl
    simp only [Ex.errs, h0]
    simpa using ih (fun j z hz => hn (j + 1) z (by simpa using hz))
theorem arity_any (k : Int) (W : World) : Calls Tryd.prog 67 #[.int .i64 k] W (fun e W' => e = .returned (.tuple #[.int .i64 (arityN k), .bool (namedB k), .bool (kindB k)]) ∧ W = W') := by
  have key : ∀ (a : Int) (n b : Bool), arityN k = a → namedB k = n → kindB k = b → Ending.returned (.tuple #[.int .i64 a, .bool n, .bool b]) = Ending.returned (.tuple #[.int .i64 (arityN k), .bool (namedB k), .bool (kindB k)]) := by
    rintro _ _ _ rfl rfl rfl; rfl
  have Key := Lib.hid key
  clear key
  by_cases h1 : k = 1
  · subst h1; go_enter Tryd.func67, Tryd.ntmps67; go_wp2_with fail; go_ret3; exact ⟨rfl, rfl⟩
  by_cases h2 : k = 2
  · subst h2; go_enter Tryd.func67, Tryd.ntmps67; go_wp2_with fail; go_ret3; exact ⟨rfl, rfl⟩
  by_cases h3 : k = 3
  · subst h3; go_enter Tryd.func67, Tryd.ntmps67; go_wp2_with fail; go_ret3; exact ⟨rfl, rfl⟩
  by_cases h4 : k = 4
  · subst h4; go_enter Tryd.func67, Tryd.ntmps67; go_wp2_with fail; go_ret3; exact ⟨rfl, rfl⟩
  by_cases h5 : k = 5
  · subst h5; go_enter Tryd.func67, Tryd.ntmps67; go_wp2_with fail; go_ret3; exact ⟨rfl, rfl⟩
  by_cases h6 : k = 6
  · subst h6; go_enter Tryd.func67, Tryd.ntmps67; go_wp2_with fail; go_ret3; exact ⟨rfl, rfl⟩
  by_cases h20 : k = 20
  · subst h20; go_enter Tryd.func67, Tryd.ntmps67; go_wp2_with fail; go_ret3; exact ⟨rfl, rfl⟩
  by_cases h7 : 7 ≤ k <;> by_cases h19 : k ≤ 19
  all_goals
    have ha : Hid (arityN k = 2) := by show _ = _; simp [arityN]; omega
    have hn : Hid (namedB k = false) := by show _ = _; simp [namedB, h2, h3, h4]
  · have hb : Hid (kindB k = true) := by show _ = _; simp [kindB]; omega
    go_enter Tryd.func67, Tryd.ntmps67; go_wp2_with fail; go_ret3; exact ⟨Key.out _ _ _ ha.out hn.out hb.out, rfl⟩
  all_goals
    have hb : Hid (kindB k = false) := by show _ = _; simp [kindB]; omega
    first
    | (exfalso; omega)
    | (go_enter Tryd.func67, Tryd.ntmps67; go_wp2_with fail; go_ret3; exact ⟨Key.out _ _ _ ha.out hn.out hb.out, rfl⟩)
def argsN (k : Int) : Int := if kindB k = true then arityN k else -2
end Go.Proofs.YtgobcldecokppaaDoor
