/- Has a case the least number? -/
import Derived.Test.YtneibcpgengdnaaTrRTab
namespace Go.Proofs.Ytneibcpgengdnaa
open Go.RowKit

theorem least_any (n : Int) (a : Option Addr) (m cap : Nat) (W : World) : Calls Try.prog 82 #[.agg #[.int .i64 n, .slice a m cap]] W (Gives (.bool (n == leastI)) W) := by
  have Hl : Hid (leastI = -9223372036854775808) := rfl
  by_cases h : n = -9223372036854775808
  · have hq : Hid ((n == leastI) = true) := by show _ = _; simp [h, leastI]
    go_enter Try.func82, Try.ntmps82
    go_wp2_with fail
    go_ret
    exact ⟨by rw [hq.out]; rfl, (Below.refl _ _).alloc (Nat.le_refl _) _⟩
  · have hq : Hid ((n == leastI) = false) := by show _ = _; simp [leastI, h]
    have hb : (n == -9223372036854775808) = false := by simp [h]
    go_enter Try.func82, Try.ntmps82
    go_wp2_with fail
    go_ret
    exact ⟨by rw [hq.out]; rfl, (Below.refl _ _).alloc (Nat.le_refl _) _⟩
theorem lowest_take {l : List Cs} {i : Nat} {y : Cs} (h : l[i]? = some y) : lowestB (l.take (i + 1)) = (lowestB (l.take i) || (y.n == leastI)) := by rw [take_next h]; simp [lowestB]
theorem lowest_hit {l : List Cs} {i : Nat} {y : Cs} (h : l[i]? = some y) (hy : (y.n == leastI) = true) : lowestB l = true := by
  unfold lowestB
  rw [List.any_eq_true]
  exact ⟨y, List.mem_of_getElem? h, hy⟩
set_option maxHeartbeats 1000000 in
theorem index_any (l : List Cs) (v : Value) (vk : Nat → Value) (W : World) (h : RowOf W v l.length 2 (fun b o i => ∀ y, l[i]? = some y → CsAt W b o y (vk i))) (hf : ∀ (i : Nat) y, l[i]? = some y → ∃ a m cap, vk i = .slice a m cap) :
    Calls Try.prog 104 #[v, .func (.func 82) #[] #[]] W (fun e W' => ∃ r : Int, e = .returned (.int .i64 r) ∧ decide (0 ≤ r) = lowestB l ∧ Below W.heap.size W W') := by
  obtain ⟨a, cap, rfl, hncap, hcap⟩ := h.form
  obtain ⟨n, hn⟩ : ∃ n, n = l.length := ⟨_, rfl⟩
  have Hn := Lib.hid hn
  have Hrow : Hid (RowOf W (.slice a n cap) l.length 2 (fun b o i => ∀ y, l[i]? = some y → CsAt W b o y (vk i))) := by rw [hn]; exact h
  have Hf := Lib.hid hf
  rw [← hn]
  rw [← hn] at hncap
  have hn62 : n ≤ 9223372036854775807 := by have : maxLen ≤ 9223372036854775807 := by decide
                                            omega
  clear h hf hn
  go_enter Try.func104, Try.ntmps104
  go_wp2_with fail
  go_loopg [5, 8] n (fun g _ iv wx => ∃ i : Nat, g = n - i ∧ iv = .int .i64 (i : Int) ∧ i ≤ n ∧ lowestB (l.take i) = false ∧ Below W.heap.size W wx)
  case atStart => exact ⟨0, rfl, rfl, Nat.zero_le _, rfl, Below.refl _ _⟩
  case round =>
    obtain ⟨i, hg, rfl, hi, hp, hO⟩ := hrel
    have HK := Lib.hid (And.intro hp hO)
    have Hg := Lib.hid hg
    clear hp hg
    by_cases hin : i < n
    · obtain ⟨y, hy⟩ : ∃ y, l[i]? = some y := ⟨_, List.getElem?_eq_getElem (by rw [← Hn.out]; exact hin)⟩
      obtain ⟨b, off, rfl, hb, hP⟩ := Hrow.out.at (i := i) (by rw [← Hn.out]; exact hin)
      have hcs := (hP y hy).later hO hb
      obtain ⟨a', m', cap', hv⟩ := Hf.out i y hy
      rw [hv] at hcs
      obtain ⟨c0, c1⟩ := hcs
      have Hy := Lib.hid hy
      clear hy hP hv hO
      go_wp2_with fail
      refine (least_any _ _ _ _ _).mono ?_
      rintro e w2 ⟨rfl, hb2⟩
      obtain ⟨z, hz⟩ : ∃ z, z = (y.n == leastI) := ⟨_, rfl⟩
      have Hz := Lib.hid hz
      rw [← hz]
      have Hb2 := Lib.hid (HK.out.2.trans (hb2.mono HK.out.2.size))
      clear hz hb2 c0 c1
      cases z
      · go_wp2_with fail
        go_roundg (n - (i + 1))
        case measure => have := Hg.out; omega
        case rel => exact ⟨i + 1, rfl, by go_num, hin, by rw [lowest_take Hy.out, HK.out.1, ← Hz.out]; rfl, Hb2.out⟩
      · go_wp2_with fail
        go_ret
        exact ⟨i, rfl, by rw [lowest_hit Hy.out Hz.out.symm]; simp, Hb2.out⟩
    · obtain rfl : n = i := by omega
      have Hres : Hid (lowestB l = false) := by
        show _ = _
        have h := HK.out.1
        rw [List.take_of_length_le (by rw [← Hn.out]; exact Nat.le_refl _)] at h
        exact h
      clear hO hin
      go_wp2_with fail
      go_ret
      exact ⟨-1, rfl, by rw [Hres.out]; rfl, HK.out.2⟩
theorem contains_any (l : List Cs) (v : Value) (vk : Nat → Value) (W : World) (h : RowOf W v l.length 2 (fun b o i => ∀ y, l[i]? = some y → CsAt W b o y (vk i))) (hf : ∀ (i : Nat) y, l[i]? = some y → ∃ a m cap, vk i = .slice a m cap) :
    Calls Try.prog 81 #[v, .func (.func 82) #[] #[]] W (Gives (.bool (lowestB l)) W) := by
  obtain ⟨a, cap, rfl, -⟩ := h.form
  have H := Lib.hid (And.intro h hf)
  clear h hf
  go_enter Try.func81, Try.ntmps81
  go_wp2_with fail
  refine (index_any l _ vk W H.out.1 H.out.2).mono ?_
  rintro e w2 ⟨r, rfl, hr, hb⟩
  have Hr := Lib.hid (And.intro hr hb)
  clear hr hb
  by_cases h0 : 0 ≤ r
  · have hq : Hid (lowestB l = true) := by show _ = _; rw [← Hr.out.1]; exact decide_eq_true h0
    go_wp2_with fail
    go_ret
    exact ⟨by rw [hq.out]; simp, Hr.out.2⟩
  · have hq : Hid (lowestB l = false) := by show _ = _; rw [← Hr.out.1]; exact decide_eq_false h0
    go_wp2_with fail
    go_ret
    exact ⟨by rw [hq.out]; simp [h0], Hr.out.2⟩
set_option maxHeartbeats 1000000 in
theorem rlowest_any (l : List Cs) (v : Value) (vk : Nat → Value) (W : World) (h : RowOf W v l.length 2 (fun b o i => ∀ y, l[i]? = some y → CsAt W b o y (vk i))) :
    Calls Try.prog 89 #[v] W (fun e W' => e = .returned (.bool (lowestB l)) ∧ W = W') := by
  obtain ⟨a, cap, rfl, hncap, hcap⟩ := h.form
  obtain ⟨n, hn⟩ : ∃ n, n = l.length := ⟨_, rfl⟩
  have Hn := Lib.hid hn
  have Hrow : Hid (RowOf W (.slice a n cap) l.length 2 (fun b o i => ∀ y, l[i]? = some y → CsAt W b o y (vk i))) := by rw [hn]; exact h
  rw [← hn]
  rw [← hn] at hncap
  have hn62 : n ≤ 9223372036854775807 := by have : maxLen ≤ 9223372036854775807 := by decide
                                            omega
  clear h hn
  go_enter Try.func89, Try.ntmps89
  go_wp2_with fail
  go_loopg [3] n (fun g iv wx => ∃ i : Nat, g = n - i ∧ iv = .int .i64 (i : Int) ∧ i ≤ n ∧ lowestB (l.take i) = false ∧ wx = W)
  case atStart => exact ⟨0, rfl, rfl, Nat.zero_le _, rfl, rfl⟩
  case round =>
    obtain ⟨i, hg, rfl, hi, hp, rfl⟩ := hrel
    have HK := Lib.hid hp
    have Hg := Lib.hid hg
    clear hp hg
    by_cases hin : i < n
    · obtain ⟨y, hy⟩ : ∃ y, l[i]? = some y := ⟨_, List.getElem?_eq_getElem (by rw [← Hn.out]; exact hin)⟩
      obtain ⟨b, off, rfl, hb, hP⟩ := Hrow.out.at (i := i) (by rw [← Hn.out]; exact hin)
      obtain ⟨c0, c1⟩ := hP y hy
      have Hy := Lib.hid hy
      clear hy hP c1
      by_cases hz : y.n = -9223372036854775808
      · have Hz : Hid ((y.n == leastI) = true) := by show _ = _; simp [leastI, hz]
        have hq : (y.n == -9223372036854775808) = true := by simp [hz]
        go_wp2_with fail
        go_ret
        exact ⟨by rw [lowest_hit Hy.out Hz.out]; rfl, rfl⟩
      · have Hz : Hid ((y.n == leastI) = false) := by show _ = _; simp [leastI, hz]
        have hq : (y.n == -9223372036854775808) = false := by simp [hz]
        go_wp2_with fail
        go_roundg (n - (i + 1))
        case measure => have := Hg.out; omega
        case rel => exact ⟨i + 1, rfl, by go_num, hin, by rw [lowest_take Hy.out, HK.out, Hz.out]; rfl, rfl⟩
    · obtain rfl : n = i := by omega
      have Hres : Hid (lowestB l = false) := by
        show _ = _
        have h := HK.out
        rw [List.take_of_length_le (by rw [← Hn.out]; exact Nat.le_refl _)] at h
        exact h
      clear hin
      go_wp2_with fail
      go_ret
      exact ⟨by rw [Hres.out]; rfl, rfl⟩
end Go.Proofs.Ytneibcpgengdnaa
