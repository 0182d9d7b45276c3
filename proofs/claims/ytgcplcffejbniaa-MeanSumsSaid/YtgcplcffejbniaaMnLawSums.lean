/- mean: the walks of MeanNames and MeanSums. -/
import Derived.Test.YtgcplcffejbniaaMnLaw
namespace Go.Proofs.Ytgcplcffejbniaa
open Go.RowKit Go.Maps

set_option maxRecDepth 100000 in
theorem mnLawNames_any (W : World) : Calls Try.prog 9 #[] W (Gives (.bool true) W) := by
  go_enter Try.func9, Try.ntmps9
  go_wp2_with fail
  refine (mnAwake_any W).mono ?_
  rintro e w2 ⟨rfl, hb2⟩
  have H2 := Lib.hid hb2
  clear hb2
  go_wp2_with fail
  go_ret
  exact ⟨rfl, H2.out⟩
theorem tmod_range (n : Int) : -2000 < n.tmod 2000 ∧ n.tmod 2000 < 2000 := by
  have h1 : ∀ m : Int, 0 ≤ m → 0 ≤ m.tmod 2000 ∧ m.tmod 2000 < 2000 := fun m hm => by
    rw [Int.tmod_eq_emod_of_nonneg hm]
    omega
  by_cases hn : 0 ≤ n
  · have := h1 n hn; omega
  · have h2 := h1 (-n) (by omega)
    rw [Int.neg_tmod] at h2
    omega
set_option maxRecDepth 100000 in
set_option maxHeartbeats 4000000 in
theorem mnLawSums_any (a n : Int) (W : World) (ha : in64 a) : Calls Try.prog 12 #[.int .i64 a, .int .i64 n] W (Gives (.bool true) W) := by
  go_enter Try.func12, Try.ntmps12
  go_wp2_with fail
  refine (mnAwake_any W).mono ?_
  rintro e w2 ⟨rfl, hb2⟩
  have H2 := Lib.hid hb2
  clear hb2
  go_upto_region 4 with (fail)
  obtain ⟨k, hk⟩ : ∃ k, k = n.tmod 2000 := ⟨_, rfl⟩
  have hk2 : -2000 < k ∧ k < 2000 := by rw [hk]; exact tmod_range n
  rw [← hk]
  clear hk
  have h64 : -9223372036854775808 ≤ a ∧ a ≤ 9223372036854775807 := ha
  by_cases h1 : a = -9223372036854775808
  · have hq : (a == -9223372036854775808) = true := by simp [h1]
    clear h1
    go_wp2_with fail
    go_ret
    exact ⟨rfl, H2.out⟩
  have hq1 : (a == -9223372036854775808) = false := by simp [h1]
  by_cases h2 : 9223372036854773807 < a
  · have hd : decide (9223372036854773807 < a) = true := decide_eq_true h2
    clear h1
    go_wp2_with fail
    go_ret
    exact ⟨rfl, H2.out⟩
  have hd2 : decide (9223372036854773807 < a) = false := decide_eq_false h2
  by_cases h3 : a < -9223372036854773807
  · have hd : decide (a < -9223372036854773807) = true := decide_eq_true h3
    clear h1 h2
    go_wp2_with fail
    go_ret
    exact ⟨rfl, H2.out⟩
  have hd3 : decide (a < -9223372036854773807) = false := decide_eq_false h3
  have hw : wrap64 (a + k) = a + k := by unfold wrap64; omega
  go_wp2_with fail
  obtain ⟨lo, hlo⟩ : ∃ z, z = min a (a + k) := ⟨_, rfl⟩
  obtain ⟨hi, hhi⟩ : ∃ z, z = max a (a + k) := ⟨_, rfl⟩
  obtain ⟨t, ht, ht2⟩ : ∃ t : Nat, (t : Int) = max k 0 ∧ t = (a + k - a).toNat := ⟨k.toNat, by omega, by omega⟩
  have ht3 : t < 2000 := by omega
  rw [← hlo, ← hhi]
  have hb' : lo ≤ hi ∧ lo ≠ leastI ∧ hi ≠ leastI ∧ in64 lo ∧ in64 hi ∧ in64 (a + k) := by unfold in64 leastI; omega
  have hT : meanT (fSum lo hi) [a, a + k] 5000 = (0, sumI 0 a t, 1 + (t : Int)) := by
    rw [sum_mean _ _ _ _ _ (by decide), ← ht2]
    rw [if_pos (by rw [Bool.and_eq_true]; exact ⟨decide_eq_true (by omega), decide_eq_true (by omega)⟩), if_pos (by omega)]
  have Hb := Lib.hid hb'
  have HT := Lib.hid hT
  have Hy := Lib.hid (And.intro hlo (And.intro hhi (And.intro ht ht2)))
  clear hb' hT hlo hhi ht2 h1 h2 h3
  refine (sum_any lo hi w2).mono ?_
  rintro E w3 ⟨g, vp, vb, rfl, hp3, hb3⟩
  obtain ⟨P, hP⟩ : ∃ P, P = w3.heap.size := ⟨_, rfl⟩
  obtain ⟨W4, hW4⟩ : ∃ W2, W2 = w3.alloc (.cells #[.slice none 0 0, .slice (some ⟨g, 0, none⟩) 1 1] 26) := ⟨_, rfl⟩
  have hb4 : Below w3.heap.size w3 W4 := by rw [hW4]; exact (Below.refl _ _).alloc (Nat.le_refl _) _
  have p0 : W4.cell? ⟨P, 0, none⟩ = some (.slice none 0 0) := by rw [hW4, hP]; exact World.cell?_alloc_at _ _ _ _ rfl
  have p1 : W4.cell? ⟨P, 1, none⟩ = some (.slice (some ⟨g, 0, none⟩) 1 1) := by rw [hW4, hP]; exact World.cell?_alloc_at _ _ _ _ rfl
  obtain ⟨A, hA⟩ : ∃ A, A = W4.heap.size := ⟨_, rfl⟩
  obtain ⟨V, hV⟩ : ∃ V, V = W4.alloc (.cells #[.int .i64 a, .int .i64 (a + k)] 2) := ⟨_, rfl⟩
  have hbv : Below W4.heap.size W4 V := by rw [hV]; exact (Below.refl _ _).alloc (Nat.le_refl _) _
  have hm : BlkM V A #[.int .i64 a, .int .i64 (a + k)] := by rw [hV]; exact .made hA
  have hcall := mrun_sum lo hi a (a + k) 5000 Hb.out.1 Hb.out.2.1 Hb.out.2.2.1 Hb.out.2.2.2.1 Hb.out.2.2.2.2.1 ha Hb.out.2.2.2.2.2 (by decide) (by decide) _ vp vb V ((hp3.later hb4).later hbv) A hm
  rw [HT.out] at hcall
  unfold fltV at hcall
  have Hcall := Lib.hid hcall
  have hbb3 := H2.out.trans (hb3.mono H2.out.size)
  have hbb4 := hbb3.trans (hb4.mono hbb3.size)
  have HBV := Lib.hid (hbb4.trans (hbv.mono hbb4.size))
  have HW4 := Lib.hid (And.intro hW4 hP)
  have HV := Lib.hid (And.intro hV hA)
  clear hp3 hb3 hP hW4 hb4 hA hV hbv hm hcall hbb3 hbb4
  go_upto_region 7 with (fail)
  rw [← HW4.out.2, ← HW4.out.1]
  go_wp2_with fail
  rw [← HV.out.2, show (⟨#[102]⟩ : ByteArray) = mF from rfl, ← HV.out.1]
  refine Hcall.out.mono ?_
  rintro E w5 ⟨rfl, hb5⟩
  obtain ⟨M, hM⟩ : ∃ A, A = w5.heap.size := ⟨_, rfl⟩
  obtain ⟨s0, hs0⟩ : ∃ z, z = sumI 0 a t := ⟨_, rfl⟩
  rw [← hs0]
  obtain ⟨W6, hW6⟩ : ∃ V, V = w5.alloc (.cells #[.int .i64 0, .int .i64 s0, .int .i64 (1 + (t : Int))] 55) := ⟨_, rfl⟩
  have hb6 : Below w5.heap.size w5 W6 := by rw [hW6]; exact (Below.refl _ _).alloc (Nat.le_refl _) _
  have hm6 : BlkM W6 M #[.int .i64 0, .int .i64 s0, .int .i64 (1 + (t : Int))] := by rw [hW6]; exact .made hM
  have m0 : W6.cell? ⟨M, 0, none⟩ = some (.int .i64 0) := hm6.2 0 _ rfl
  have m1 : W6.cell? ⟨M, 1, none⟩ = some (.int .i64 s0) := hm6.2 1 _ rfl
  have m2 : W6.cell? ⟨M, 2, none⟩ = some (.int .i64 (1 + (t : Int))) := hm6.2 2 _ rfl
  have hb56 := HBV.out.trans (hb5.mono HBV.out.size)
  have H6 := Lib.hid (hb56.trans (hb6.mono hb56.size))
  have HW6 := Lib.hid (And.intro hW6 hM)
  have Hs0 := Lib.hid hs0
  have hkt : max k 0 = (t : Int) := ht.symm
  clear hb5 hM hW6 hb6 hm6 hs0 hb56 p0 p1 Hcall ht
  go_upto_region 8 with (fail)
  rw [← HW6.out.2, ← HW6.out.1]
  have hp0 : 0 ≤ (t : Int) * ((t : Int) - 1) ∧ (t : Int) * ((t : Int) - 1) ≤ 4000000 := by
    match t, ht3 with
    | 0, _ => simp
    | t + 1, h3 =>
      have h1 : ((t + 1 : Nat) : Int) * (((t + 1 : Nat) : Int) - 1) = (((t + 1) * t : Nat) : Int) := by push_cast; rw [show (t : Int) + 1 - 1 = (t : Int) by omega]
      have h2 : (t + 1) * t ≤ 2000 * 2000 := Nat.mul_le_mul (by omega) (by omega)
      rw [h1]
      omega
  have hev : 2 * ((t : Int) * ((t : Int) - 1) / 2) = (t : Int) * ((t : Int) - 1) := by
    have h2 : (t : Int) * ((t : Int) - 1) % 2 = 0 := by
      have h01 : (t : Int) % 2 = 0 ∨ (t : Int) % 2 = 1 := by omega
      rcases h01 with h | h
      · rw [Int.mul_emod, h]; simp
      · rw [Int.mul_emod, Int.sub_emod, h]; simp
    omega
  have hwt1 : wrap64 ((t : Int) - 1) = (t : Int) - 1 := by unfold wrap64; omega
  obtain ⟨p, hp⟩ : ∃ p, p = (t : Int) * ((t : Int) - 1) := ⟨_, rfl⟩
  rw [← hp] at hp0 hev
  have hpp : (t : Int) * ((t : Int) - 1) = p := hp.symm
  have hwp : wrap64 p = p := by unfold wrap64; omega
  have htd : p.tdiv 2 = p / 2 := Int.tdiv_eq_ediv_of_nonneg hp0.1
  have hwh : wrap64 (p / 2) = p / 2 := by unfold wrap64; omega
  have hw1t : wrap64 (1 + (t : Int)) = 1 + (t : Int) := by unfold wrap64; omega
  have hS : s0 = wrap64 (wrap64 ((t : Int) * a) + p / 2) := by
    rw [Hs0.out, sumI_eq t 0 a (p / 2) (by unfold in64; omega) (by rw [hev, hp])]
    have := w64_w64 ((t : Int) * a) (p / 2)
    unfold w64 at this ⊢
    rw [this]
    congr 1
    omega
  have HS := Lib.hid hS
  clear hp hS hev hk2 h64 ht3
  obtain ⟨q, hq⟩ : ∃ q, q = wrap64 ((t : Int) * a) := ⟨_, rfl⟩
  obtain ⟨d, hd⟩ : ∃ d, d = p / 2 := ⟨_, rfl⟩
  have hqq : wrap64 ((t : Int) * a) = q := hq.symm
  rw [← hd] at htd hwh HS
  rw [hqq] at HS
  have hs1 : wrap64 (q + d) = s0 := HS.out.symm
  clear hq hd hp0
  go_wp2_with fail
  go_ret
  exact ⟨by first | rfl | simp, H6.out⟩
end Go.Proofs.Ytgcplcffejbniaa
