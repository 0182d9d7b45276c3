/- R1.Name: may a text be a name? -/
import Derived.Test.YtneibcpgengdnaaTrName
namespace Go.Proofs.Ytneibcpgengdnaa
open Go.RowKit

def wordsS : List ByteArray := wordsL.map (fun l => ⟨l.toArray⟩)
theorem in_any (s : ByteArray) (b : Nat) (W : World) (h : ∀ (i : Nat) t, wordsS[i]? = some t → W.cell? ⟨b, i, none⟩ = some (.string t)) (hb : b < W.heap.size) :
    Calls Try.prog 110 #[.string s, .slice (some ⟨b, 0, none⟩) 11 11] W (fun e W' => e = .returned (.bool (wordB s)) ∧ W = W') := by
  have H := Lib.hid h
  clear h
  go_enter Try.func110, Try.ntmps110
  go_wp2_with fail
  go_loopg [5] 11 (fun g iv wx => ∃ i : Nat, g = 11 - i ∧ iv = .int .i64 (i : Int) ∧ i ≤ 11 ∧ (∀ j w, j < i → wordsL[j]? = some w → s.toList ≠ w) ∧ wx = W)
  case atStart => exact ⟨0, rfl, rfl, Nat.zero_le _, fun j w h => by omega, rfl⟩
  case round =>
    obtain ⟨i, hg, rfl, hi, hp, rfl⟩ := hrel
    have Hp := Lib.hid hp
    clear hp
    by_cases hin : i < 11
    · obtain ⟨t, ht⟩ : ∃ t, wordsS[i]? = some t := ⟨wordsS[i]'hin, List.getElem?_eq_getElem _⟩
      have hc := H.out i t ht
      have hw : Hid (wordsL[i]? = some t.toList) := by
        show _ = _
        unfold wordsS at ht
        rw [List.getElem?_map] at ht
        cases hx : wordsL[i]? with
        | none => rw [hx] at ht; cases ht
        | some w => rw [hx] at ht; cases ht; simp [ByteArray.toList_eq]
      clear ht
      by_cases he : t.toList = s.toList
      · have Hres : Hid (wordB s = true) := by
          show _ = _
          unfold wordB
          rw [decide_eq_true_eq, ← he]
          exact List.mem_of_getElem? hw.out
        go_wp2_with fail
        go_ret
        exact ⟨by rw [Hres.out]; rfl, rfl⟩
      · have He := Lib.hid he
        have hq : (t.toList == s.toList) = false := by simp [he]
        go_wp2_with fail
        go_roundg (11 - (i + 1))
        case measure => omega
        case rel => exact ⟨i + 1, rfl, by go_num, hin, fun j w hj hw2 => by
          by_cases e : j = i
          · subst e
            rw [hw.out] at hw2
            cases hw2
            exact fun h => He.out h.symm
          · exact Hp.out j w (by omega) hw2, rfl⟩
    · have Hres : Hid (wordB s = false) := by
        show _ = _
        unfold wordB
        rw [decide_eq_false_iff_not]
        intro h
        obtain ⟨j, hj⟩ := List.mem_iff_getElem?.1 h
        have h1 := (List.getElem?_eq_some_iff.1 hj).1
        have h2 : wordsL.length = 11 := rfl
        exact Hp.out j _ (by omega) hj rfl
      go_wp2_with fail
      go_ret
      exact ⟨by rw [Hres.out]; rfl, rfl⟩
theorem words_any (W : World) : Calls Try.prog 111 #[] W (fun e W' => e = .returned (.slice (some ⟨W.heap.size, 0, none⟩) 11 11) ∧ Below W.heap.size W W' ∧ W.heap.size < W'.heap.size ∧ ∀ (i : Nat) t, wordsS[i]? = some t → W'.cell? ⟨W.heap.size, i, none⟩ = some (.string t)) := by
  go_enter Try.func111, Try.ntmps111
  go_wp2_with fail
  go_ret
  refine ⟨rfl, (Below.refl _ _).alloc (Nat.le_refl _) _, by simp, fun i t h => ?_⟩
  rw [World.cell?_alloc_at _ _ _ _ rfl]
  have e : ((wordsS.map Value.string).toArray)[i]? = some (.string t) := by
    rw [List.getElem?_toArray, List.getElem?_map, h]; rfl
  exact e
theorem rword_any (s : ByteArray) (W : World) : Calls Try.prog 86 #[.string s] W (Gives (.bool (wordB s)) W) := by
  go_enter Try.func86, Try.ntmps86
  go_wp2_with fail
  refine (words_any W).mono ?_
  rintro e w1 ⟨rfl, hb, hs, hc⟩
  have Hb := Lib.hid (And.intro hb hc)
  clear hb hc
  go_wp2_with fail
  refine (in_any s _ w1 Hb.out.2 hs).mono ?_
  rintro e w2 ⟨rfl, hw⟩
  rw [← hw]
  clear hw
  go_wp2_with fail
  go_ret
  exact ⟨rfl, Hb.out.1⟩
def plainB (s : ByteArray) : Bool := decide (0 < s.size) && isLet (byteN s 0) && (List.range s.size).all (fun i => isAl (byteN s i))
theorem plain_any (s : ByteArray) (W : World) (hs : s.size ≤ 16) : Calls Try.prog 85 #[.string s] W (fun e W' => e = .returned (.bool (plainB s)) ∧ W = W') := by
  go_enter Try.func85, Try.ntmps85
  go_wp2_with fail
  go_loopg [3] s.size (fun g iv wx => ∃ i : Nat, g = s.size - i ∧ iv = .int .i64 (i : Int) ∧ i ≤ s.size ∧ (∀ j, j < i → isAl (byteN s j) = true ∧ (j = 0 → isLet (byteN s j) = true)) ∧ wx = W)
  case atStart => exact ⟨0, rfl, rfl, Nat.zero_le _, fun j h => by omega, rfl⟩
  case round =>
    obtain ⟨i, hg, rfl, hi, hp, rfl⟩ := hrel
    have Hp := Lib.hid hp
    clear hp
    by_cases hin : i < s.size
    · go_wp2_with fail
      refine (rletter_any _ _).mono ?_
      rintro e w1 ⟨rfl, hw⟩
      rw [← hw, byteN_eq hin]
      clear hw
      obtain ⟨z, hz⟩ : ∃ z, z = isLet (byteN s i) := ⟨_, rfl⟩
      have Hz := Lib.hid hz
      rw [← hz]
      clear hz
      have Hno : Hid (z = false → (i = 0 ∨ isDig (byteN s i) = false) → plainB s = false) := fun h1 h2 => by
        have h3 := Hz.out
        rw [h1] at h3
        rcases h2 with rfl | h2
        · simp [plainB, ← h3]
        · have : ¬ (List.range s.size).all (fun i => isAl (byteN s i)) = true := fun h => by
            have := all_al.1 h i hin
            simp [isAl, ← h3, h2] at this
          simp only [Bool.not_eq_true] at this
          simp [plainB, this]
      cases z
      · by_cases h0 : i = 0
        · have Hres : Hid (plainB s = false) := Hno.out (by trivial) (.inl h0)
          subst h0
          go_wp2_with fail
          go_ret
          exact ⟨by rw [Hres.out]; rfl, rfl⟩
        · go_wp2_with fail
          refine (rdigit_any _ _).mono ?_
          rintro e w1 ⟨rfl, hw⟩
          rw [← hw]
          try rw [byteN_eq hin]
          clear hw
          obtain ⟨y, hy⟩ : ∃ y, y = isDig (byteN s i) := ⟨_, rfl⟩
          have Hy := Lib.hid hy
          rw [← hy]
          clear hy
          cases y
          · have Hres : Hid (plainB s = false) := Hno.out (by trivial) (.inr Hy.out.symm)
            go_wp2_with fail
            go_ret
            exact ⟨by rw [Hres.out]; rfl, rfl⟩
          · go_wp2_with fail
            go_roundg (s.size - (i + 1))
            case measure => omega
            case rel => exact ⟨i + 1, rfl, by go_num, hin, fun j hj => by
              by_cases e : j = i
              · subst e
                exact ⟨by simp [isAl, ← Hy.out], fun h => absurd h h0⟩
              · exact Hp.out j (by omega), rfl⟩
      · go_wp2_with fail
        go_roundg (s.size - (i + 1))
        case measure => omega
        case rel => exact ⟨i + 1, rfl, by go_num, hin, fun j hj => by
          by_cases e : j = i
          · subst e
            exact ⟨by simp [isAl, ← Hz.out], fun _ => Hz.out.symm⟩
          · exact Hp.out j (by omega), rfl⟩
    · obtain rfl : i = s.size := by omega
      have Hres : Hid (plainB s = decide (0 < s.size)) := by
        show _ = _
        have h1 : (List.range s.size).all (fun i => isAl (byteN s i)) = true := all_al.2 fun i hi => (Hp.out i hi).1
        by_cases h : 0 < s.size
        · have h2 := (Hp.out 0 h).2 rfl
          simp [plainB, h1, h2, h]
        · simp [plainB, h]
      by_cases h : 0 < s.size
      · go_wp2_with fail
        go_ret
        exact ⟨by rw [Hres.out, decide_eq_true h]; simp, rfl⟩
      · go_wp2_with fail
        go_ret
        exact ⟨by rw [Hres.out, decide_eq_false h]; simp, rfl⟩
theorem rname_any (s : ByteArray) (W : World) : Calls Try.prog 66 #[.string s] W (Gives (.bool (nameB s)) W) := by
  by_cases h2 : s.size ≤ 16
  · obtain ⟨z, hz⟩ : ∃ z, z = plainB s := ⟨_, rfl⟩
    have Hz := Lib.hid hz
    clear hz
    go_enter Try.func66, Try.ntmps66
    go_wp2_with fail
    refine (plain_any s _ h2).mono ?_
    rintro e w1 ⟨rfl, hw⟩
    rw [← hw, ← Hz.out]
    clear hw
    cases z
    · have Hres : Hid (nameB s = false) := by
        show _ = _
        have h := Hz.out.symm
        unfold plainB at h
        unfold nameB
        rw [Bool.and_assoc (decide (s.size ≤ 16)) _ _, Bool.and_assoc (decide (s.size ≤ 16)) _ _, h]
        simp
      go_wp2_with fail
      go_ret
      exact ⟨by rw [Hres.out]; rfl, Below.refl _ _⟩
    · obtain ⟨b, hb⟩ : ∃ b, b = wordB s := ⟨_, rfl⟩
      have Hb := Lib.hid hb
      have Hres : Hid (nameB s = !b) := by
        show _ = _
        have h := Hz.out.symm
        unfold plainB at h
        unfold nameB
        rw [Bool.and_assoc (decide (s.size ≤ 16)) _ _, Bool.and_assoc (decide (s.size ≤ 16)) _ _, h, hb, decide_eq_true h2]
        simp
      clear hb
      go_wp2_with fail
      refine (rword_any s _).mono ?_
      rintro e w1 ⟨rfl, hb1⟩
      rw [← Hb.out]
      have Hb1 := Lib.hid hb1
      clear hb1
      go_wp2_with fail
      go_ret
      exact ⟨by rw [Hres.out]; rfl, Hb1.out⟩
  · have Hres : Hid (nameB s = false) := by show _ = _; simp [nameB, h2]
    go_enter Try.func66, Try.ntmps66
    go_wp2_with fail
    go_ret
    exact ⟨by rw [Hres.out]; rfl, Below.refl _ _⟩
end Go.Proofs.Ytneibcpgengdnaa
