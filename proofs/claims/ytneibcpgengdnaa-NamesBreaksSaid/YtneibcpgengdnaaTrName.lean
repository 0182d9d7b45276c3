/- scan.Name and R1.Name: may a text be a name? -/
import Derived.Test.YtneibcpgengdnaaTrNodes
namespace Go.Proofs.Ytneibcpgengdnaa
open Go.RowKit

def isLet (c : Int) : Bool := decide (97 ≤ c) && decide (c ≤ 122)
def isDig (c : Int) : Bool := decide (48 ≤ c) && decide (c ≤ 57)
theorem letter_any (c : Int) (W : World) : Calls Try.prog 77 #[.int .u8 c] W (fun e W' => e = .returned (.bool (isLet c)) ∧ W = W') := by
  by_cases h1 : (97 : Int) ≤ c <;> by_cases h2 : c ≤ 122
  all_goals
    go_enter Try.func77, Try.ntmps77
    go_wp2_with fail
    go_ret
    refine ⟨?_, rfl⟩
    simp [isLet, h1, h2]
theorem digit_any (c : Int) (W : World) : Calls Try.prog 103 #[.int .u8 c] W (fun e W' => e = .returned (.bool (isDig c)) ∧ W = W') := by
  by_cases h1 : (48 : Int) ≤ c <;> by_cases h2 : c ≤ 57
  all_goals
    go_enter Try.func103, Try.ntmps103
    go_wp2_with fail
    go_ret
    refine ⟨?_, rfl⟩
    simp [isDig, h1, h2]
theorem rletter_any (c : Int) (W : World) : Calls Try.prog 108 #[.int .u8 c] W (fun e W' => e = .returned (.bool (isLet c)) ∧ W = W') := by
  by_cases h1 : (97 : Int) ≤ c <;> by_cases h2 : c ≤ 122
  all_goals
    go_enter Try.func108, Try.ntmps108
    go_wp2_with fail
    go_ret
    refine ⟨?_, rfl⟩
    simp [isLet, h1, h2]
theorem rdigit_any (c : Int) (W : World) : Calls Try.prog 109 #[.int .u8 c] W (fun e W' => e = .returned (.bool (isDig c)) ∧ W = W') := by
  by_cases h1 : (48 : Int) ≤ c <;> by_cases h2 : c ≤ 57
  all_goals
    go_enter Try.func109, Try.ntmps109
    go_wp2_with fail
    go_ret
    refine ⟨?_, rfl⟩
    simp [isDig, h1, h2]
def isAl (c : Int) : Bool := isLet c || isDig c
theorem alnum_any (c : Int) (W : World) : Calls Try.prog 79 #[.int .u8 c] W (fun e W' => e = .returned (.bool (isAl c)) ∧ W = W') := by
  go_enter Try.func79, Try.ntmps79
  go_wp2_with fail
  refine (letter_any c W).mono ?_
  rintro e w ⟨rfl, hw⟩
  rw [← hw]
  clear hw
  obtain ⟨z, hz⟩ : ∃ z, z = isLet c := ⟨_, rfl⟩
  have Hz := Lib.hid hz
  rw [← hz]
  clear hz
  cases z
  · go_wp2_with fail
    refine (digit_any c W).mono ?_
    rintro e w ⟨rfl, hw⟩
    rw [← hw]
    clear hw
    go_wp2_with fail
    go_ret
    exact ⟨by simp only [isAl, ← Hz.out]; rfl, rfl⟩
  · go_wp2_with fail
    go_ret
    exact ⟨by simp only [isAl, ← Hz.out]; rfl, rfl⟩
/-- The number of the byte at a place. -/
def byteN (s : ByteArray) (i : Nat) : Int := if h : i < s.size then ((s[i]'h).toNat : Int) else 0
theorem byteN_eq {s : ByteArray} {i : Nat} (h : i < s.size) : ((s[i]'h).toNat : Int) = byteN s i := by unfold byteN; rw [dif_pos h]
def allAl (s : ByteArray) : Prop := ∀ i, i < s.size → isAl (byteN s i) = true
/-- Where the row of letters and digits ends that begins at a place. -/
theorem row_any (s : ByteArray) (W : World) (hs : s.size ≤ 16) : Calls Try.prog 78 #[.string s, .int .i64 0, .func (.func 79) #[] #[]] W (fun e W' => ∃ k : Nat, e = .returned (.int .i64 (k : Int)) ∧ W = W' ∧ k ≤ s.size ∧ (∀ i, i < k → isAl (byteN s i) = true) ∧ (k < s.size → isAl (byteN s k) = false)) := by
  go_enter Try.func78, Try.ntmps78
  go_wp2_with fail
  go_loopg [1] s.size (fun g iv wx => ∃ i : Nat, g = s.size - i ∧ iv = .int .i64 (i : Int) ∧ i ≤ s.size ∧ (∀ j, j < i → isAl (byteN s j) = true) ∧ wx = W)
  case atStart => exact ⟨0, rfl, rfl, Nat.zero_le _, fun j h => by omega, rfl⟩
  case round =>
    obtain ⟨i, hg, rfl, hi, hp, rfl⟩ := hrel
    have Hp := Lib.hid hp
    clear hp
    by_cases hin : i < s.size
    · go_wp2_with fail
      refine (alnum_any _ _).mono ?_
      rintro e w1 ⟨rfl, hw⟩
      rw [← hw, byteN_eq hin]
      clear hw
      obtain ⟨z, hz⟩ : ∃ z, z = isAl (byteN s i) := ⟨_, rfl⟩
      have Hz := Lib.hid hz
      rw [← hz]
      clear hz
      cases z
      · go_wp2_with fail
        go_ret
        exact ⟨i, rfl, rfl, by omega, Hp.out, fun _ => Hz.out.symm⟩
      · go_wp2_with fail
        go_roundg (s.size - (i + 1))
        case measure => omega
        case rel => exact ⟨i + 1, rfl, by go_num, hin, fun j hj => by
          by_cases e : j = i
          · subst e; exact Hz.out.symm
          · exact Hp.out j (by omega), rfl⟩
    · go_wp2_with fail
      go_ret
      exact ⟨i, rfl, rfl, by omega, Hp.out, fun h => absurd h hin⟩
def wordsL : List (List UInt8) := [[119, 105, 100, 101, 110], [102, 110], [108, 101, 116], [102, 111, 114], [105, 110], [105, 102], [101, 108, 115, 101], [115, 119, 105, 116, 99, 104], [99, 97, 115, 101], [98, 114, 101, 97, 107], [114, 101, 116, 117, 114, 110]]
def wordB (s : ByteArray) : Bool := decide (s.toList ∈ wordsL)
theorem word_any (s : ByteArray) (W : World) : Calls Try.prog 80 #[.string s] W (fun e W' => e = .returned (.bool (wordB s)) ∧ W = W') := by
  have hw : wordB s = decide (s.toList ∈ wordsL) := rfl
  unfold wordsL at hw
  simp only [List.mem_cons, List.not_mem_nil, or_false] at hw
  have Hw := Lib.hid hw
  clear hw
  go_enter Try.func80, Try.ntmps80
  go_wp2_with fail
  all_goals
    go_ret
    refine ⟨?_, rfl⟩
    rw [Hw.out]
    simp_all
/-- May a text be a name? -/
def nameB (s : ByteArray) : Bool := decide (s.size ≤ 16) && decide (0 < s.size) && isLet (byteN s 0) && (List.range s.size).all (fun i => isAl (byteN s i)) && !wordB s
theorem empty_iff (s : ByteArray) : (s.toList == []) = decide (s.size = 0) := by
  have h1 : s.size = s.toList.length := by rw [ByteArray.toList_eq s, Array.length_toList]; rfl
  rw [h1]
  cases s.toList <;> rfl
theorem all_al {s : ByteArray} : (List.range s.size).all (fun i => isAl (byteN s i)) = true ↔ ∀ i, i < s.size → isAl (byteN s i) = true := by simp [List.all_eq_true]
set_option maxHeartbeats 1000000 in
theorem name_any (s : ByteArray) (W : World) : Calls Try.prog 52 #[.string s] W (fun e W' => e = .returned (.bool (nameB s)) ∧ W = W') := by
  have he := empty_iff s
  by_cases h0 : s.size = 0
  · have hq : s.toList = [] := by simpa [h0] using he
    have Hres : Hid (nameB s = false) := by show _ = _; simp [nameB, h0]
    clear he h0
    go_enter Try.func52, Try.ntmps52
    go_wp2_with fail
    go_ret
    exact ⟨by rw [Hres.out]; rfl, rfl⟩
  · have hq : ¬ s.toList = [] := by simpa [h0] using he
    have h1 : 0 < s.size := by omega
    have hq2 : s.toList.isEmpty = false := by simp [hq]
    obtain ⟨z, hz⟩ : ∃ z, z = isLet (byteN s 0) := ⟨_, rfl⟩
    have Hz := Lib.hid hz
    have hby := byteN_eq h1
    have Hby := Lib.hid hby
    clear he hz hby h0
    go_enter Try.func52, Try.ntmps52
    go_wp2_with fail
    refine (letter_any _ _).mono ?_
    rintro e w1 ⟨rfl, hw⟩
    rw [← hw, Hby.out, ← Hz.out]
    clear hw
    cases z
    · have Hres : Hid (nameB s = false) := by show _ = _; simp [nameB, ← Hz.out]
      go_wp2_with fail
      go_ret
      exact ⟨by rw [Hres.out]; rfl, rfl⟩
    · by_cases h2 : s.size ≤ 16
      · have hq3 : decide ((16 : Int) < s.size) = false := by simp; omega
        go_wp2_with fail
        refine (row_any s _ h2).mono ?_
        rintro e w1 ⟨k, rfl, hw, hk, hal, hno⟩
        rw [← hw]
        have HR := Lib.hid (And.intro hal hno)
        clear hw hal hno
        by_cases hks : k = s.size
        · obtain ⟨b, hb⟩ : ∃ b, b = wordB s := ⟨_, rfl⟩
          have Hb := Lib.hid hb
          have Hres : Hid (nameB s = !b) := by
            show _ = _
            have : (List.range s.size).all (fun i => isAl (byteN s i)) = true := all_al.2 (by rw [← hks]; exact HR.out.1)
            simp [nameB, ← Hz.out, h1, h2, ← hb, this]
          subst hks
          clear hb
          go_wp2_with fail
          refine (word_any s _).mono ?_
          rintro e w1 ⟨rfl, hw⟩
          rw [← hw, ← Hb.out]
          clear hw
          go_wp2_with fail
          go_ret
          exact ⟨by rw [Hres.out]; rfl, rfl⟩
        · have hkl : k < s.size := by omega
          have Hres : Hid (nameB s = false) := by
            show _ = _
            have : ¬ (List.range s.size).all (fun i => isAl (byteN s i)) = true := fun h => by
              have := all_al.1 h k hkl
              rw [HR.out.2 hkl] at this
              cases this
            simp only [Bool.not_eq_true] at this
            simp [nameB, this]
          go_wp2_with fail
          go_ret
          exact ⟨by rw [Hres.out]; rfl, rfl⟩
      · have Hres : Hid (nameB s = false) := by show _ = _; simp [nameB, h2]
        go_wp2_with fail
        go_ret
        exact ⟨by rw [Hres.out]; rfl, rfl⟩
end Go.Proofs.Ytneibcpgengdnaa
