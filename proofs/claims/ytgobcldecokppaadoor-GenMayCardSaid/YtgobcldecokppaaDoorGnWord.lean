/- gen: a register becomes 0 or 1; an operation of two registers. -/
import Derived.Test.YtgobcldecokppaaDoorGnPut
namespace Go.Proofs.YtgobcldecokppaaDoor
open Go.RowKit Go.Maps

theorem regs3 {a b c : Int} (ha : 0 ≤ a ∧ a ≤ 1000000000000) (hb : 0 ≤ b ∧ b ≤ 1000000000000) (hc : 0 ≤ c ∧ c ≤ 1000000000000) (op n : Int) : Ins.regs ⟨op, a, b, c, n⟩ := ⟨ha, hb, hc⟩
theorem zero12 : (0 : Int) ≤ 0 ∧ (0 : Int) ≤ 1000000000000 := by decide
set_option maxRecDepth 100000 in
set_option maxHeartbeats 600000 in
theorem bit_any (t : Int) (ht : 0 ≤ t ∧ t ≤ 1000000) (w : World) (B : Nat) (m : Mk) (F : ByteArray → Int) (N : Nat) (s : GS) (h : MkAt w B m F N s) (hl : s.code.length + 2 ≤ 1000000000000) :
    Calls Tryd.prog 43 #[ptrV m.b, .int .i64 t] w (fun E w' => E = .returned (.tuple #[]) ∧ ∃ m', MkAt w' B m' F N (s.add (gnBit t)) ∧ GStep w m w' m') := by
  have H := Lib.hid (And.intro h hl)
  have Ht := Lib.hid ht
  clear h hl ht
  go_enter Tryd.func43, Tryd.ntmps43
  go_wp2_with fail
  refine (put_any ⟨10, t, t, 0, 0⟩ (regs3 (by have := Ht.out; omega) (by have := Ht.out; omega) zero12 _ _) w B m F N s H.out.1 (by have := H.out.2; omega)).mono ?_
  rintro E w2 ⟨rfl, m2, hM2, hG2⟩
  have H2 := Lib.hid (And.intro hM2 hG2)
  clear hM2 hG2
  go_wp2_with fail
  have hp := put_any ⟨10, t, t, 0, 0⟩ (regs3 (by have := Ht.out; omega) (by have := Ht.out; omega) zero12 _ _) w2 B m2 F N _ H2.out.1 (by rw [GS.add_len]; have := H.out.2; simp; omega)
  rw [H2.out.2.b] at hp
  refine hp.mono ?_
  rintro E w3 ⟨rfl, m3, hM3, hG3⟩
  have H3 := Lib.hid (And.intro hM3 hG3)
  clear hM3 hG3
  go_wp2_with fail
  refine bodyPost_end (results_none rfl _ _ _) rfl ?_
  exact ⟨rfl, m3, by have h1 := H3.out.1; rw [GS.add_add] at h1; exact h1, H2.out.2.trans H3.out.2⟩
set_option maxRecDepth 100000 in
set_option maxHeartbeats 4000000 in
theorem gtwo_any (k t : Int) (ht : 0 ≤ t ∧ t ≤ 1000000) (w : World) (B : Nat) (m : Mk) (F : ByteArray → Int) (N : Nat) (s : GS) (h : MkAt w B m F N s) (hl : s.code.length + 2 ≤ 1000000000000) :
    Calls Tryd.prog 34 #[ptrV m.b, .int .i64 k, .int .i64 t] w (fun E w' => E = .returned (.tuple #[]) ∧ ∃ m', MkAt w' B m' F N (s.add (gnTwo k t)) ∧ GStep w m w' m') := by
  have H := Lib.hid (And.intro h hl)
  have Ht := Lib.hid ht
  have hw1 : wrap64 (t + 1) = t + 1 := by unfold wrap64; omega
  clear h hl ht
  go_enter Tryd.func34, Tryd.ntmps34
  by_cases h7 : k = 7
  · have q7 : (k == 7) = true := by simp [h7]
    have q8 : (k == 8) = false := by simp [h7]
    have q9 : (k == 9) = false := by simp [h7]
    have q10 : (k == 10) = false := by simp [h7]
    have q11 : (k == 11) = false := by simp [h7]
    have q12 : (k == 12) = false := by simp [h7]
    have q13 : (k == 13) = false := by simp [h7]
    have q14 : (k == 14) = false := by simp [h7]
    have q17 : (k == 17) = false := by simp [h7]
    have q15 : (k == 15) = false := by simp [h7]
    have Hr : Hid (gnTwo k t = [⟨3, t, t, t + 1, 0⟩]) := by show _ = _; simp [gnTwo, h7]
    clear h7
    go_wp2_with fail
    refine (put_any ⟨3, t, t, t + 1, 0⟩ (regs3 (by have := Ht.out; omega) (by have := Ht.out; omega) (by have := Ht.out; omega) _ _) _ B m F N s (H.out.1.later ((Below.refl _ _).alloc (Nat.le_refl _) _)) (by have := H.out.2; omega)).mono ?_
    rintro E w2 ⟨rfl, m2, hM2, hG2⟩
    have H2 := Lib.hid (And.intro hM2 ((GStep.of_below m ((Below.refl _ _).alloc (Nat.le_refl _) _)).trans hG2))
    clear hM2 hG2
    go_wp2_with fail
    refine bodyPost_end (results_none rfl _ _ _) rfl ?_
    exact ⟨rfl, m2, by rw [Hr.out]; exact H2.out.1, H2.out.2⟩
  by_cases h8 : k = 8
  · have q7 : (k == 7) = false := by simp [h7]
    have q8 : (k == 8) = true := by simp [h8]
    have q9 : (k == 9) = false := by simp [h8]
    have q10 : (k == 10) = false := by simp [h8]
    have q11 : (k == 11) = false := by simp [h8]
    have q12 : (k == 12) = false := by simp [h8]
    have q13 : (k == 13) = false := by simp [h8]
    have q14 : (k == 14) = false := by simp [h8]
    have q17 : (k == 17) = false := by simp [h8]
    have q15 : (k == 15) = false := by simp [h8]
    have Hr : Hid (gnTwo k t = [⟨4, t, t, t + 1, 0⟩]) := by show _ = _; simp [gnTwo, h8]
    clear h7 h8
    go_wp2_with fail
    refine (put_any ⟨4, t, t, t + 1, 0⟩ (regs3 (by have := Ht.out; omega) (by have := Ht.out; omega) (by have := Ht.out; omega) _ _) _ B m F N s (H.out.1.later ((Below.refl _ _).alloc (Nat.le_refl _) _)) (by have := H.out.2; omega)).mono ?_
    rintro E w2 ⟨rfl, m2, hM2, hG2⟩
    have H2 := Lib.hid (And.intro hM2 ((GStep.of_below m ((Below.refl _ _).alloc (Nat.le_refl _) _)).trans hG2))
    clear hM2 hG2
    go_wp2_with fail
    refine bodyPost_end (results_none rfl _ _ _) rfl ?_
    exact ⟨rfl, m2, by rw [Hr.out]; exact H2.out.1, H2.out.2⟩
  by_cases h9 : k = 9
  · have q7 : (k == 7) = false := by simp [h7]
    have q8 : (k == 8) = false := by simp [h8]
    have q9 : (k == 9) = true := by simp [h9]
    have q10 : (k == 10) = false := by simp [h9]
    have q11 : (k == 11) = false := by simp [h9]
    have q12 : (k == 12) = false := by simp [h9]
    have q13 : (k == 13) = false := by simp [h9]
    have q14 : (k == 14) = false := by simp [h9]
    have q17 : (k == 17) = false := by simp [h9]
    have q15 : (k == 15) = false := by simp [h9]
    have Hr : Hid (gnTwo k t = [⟨5, t, t, t + 1, 0⟩]) := by show _ = _; simp [gnTwo, h9]
    clear h7 h8 h9
    go_wp2_with fail
    refine (put_any ⟨5, t, t, t + 1, 0⟩ (regs3 (by have := Ht.out; omega) (by have := Ht.out; omega) (by have := Ht.out; omega) _ _) _ B m F N s (H.out.1.later ((Below.refl _ _).alloc (Nat.le_refl _) _)) (by have := H.out.2; omega)).mono ?_
    rintro E w2 ⟨rfl, m2, hM2, hG2⟩
    have H2 := Lib.hid (And.intro hM2 ((GStep.of_below m ((Below.refl _ _).alloc (Nat.le_refl _) _)).trans hG2))
    clear hM2 hG2
    go_wp2_with fail
    refine bodyPost_end (results_none rfl _ _ _) rfl ?_
    exact ⟨rfl, m2, by rw [Hr.out]; exact H2.out.1, H2.out.2⟩
  by_cases h10 : k = 10
  · have q7 : (k == 7) = false := by simp [h7]
    have q8 : (k == 8) = false := by simp [h8]
    have q9 : (k == 9) = false := by simp [h9]
    have q10 : (k == 10) = true := by simp [h10]
    have q11 : (k == 11) = false := by simp [h10]
    have q12 : (k == 12) = false := by simp [h10]
    have q13 : (k == 13) = false := by simp [h10]
    have q14 : (k == 14) = false := by simp [h10]
    have q17 : (k == 17) = false := by simp [h10]
    have q15 : (k == 15) = false := by simp [h10]
    have Hr : Hid (gnTwo k t = [⟨6, t, t, t + 1, 0⟩]) := by show _ = _; simp [gnTwo, h10]
    clear h7 h8 h9 h10
    go_wp2_with fail
    refine (put_any ⟨6, t, t, t + 1, 0⟩ (regs3 (by have := Ht.out; omega) (by have := Ht.out; omega) (by have := Ht.out; omega) _ _) _ B m F N s (H.out.1.later ((Below.refl _ _).alloc (Nat.le_refl _) _)) (by have := H.out.2; omega)).mono ?_
    rintro E w2 ⟨rfl, m2, hM2, hG2⟩
    have H2 := Lib.hid (And.intro hM2 ((GStep.of_below m ((Below.refl _ _).alloc (Nat.le_refl _) _)).trans hG2))
    clear hM2 hG2
    go_wp2_with fail
    refine bodyPost_end (results_none rfl _ _ _) rfl ?_
    exact ⟨rfl, m2, by rw [Hr.out]; exact H2.out.1, H2.out.2⟩
  by_cases h11 : k = 11
  · have q7 : (k == 7) = false := by simp [h7]
    have q8 : (k == 8) = false := by simp [h8]
    have q9 : (k == 9) = false := by simp [h9]
    have q10 : (k == 10) = false := by simp [h10]
    have q11 : (k == 11) = true := by simp [h11]
    have q12 : (k == 12) = false := by simp [h11]
    have q13 : (k == 13) = false := by simp [h11]
    have q14 : (k == 14) = false := by simp [h11]
    have q17 : (k == 17) = false := by simp [h11]
    have q15 : (k == 15) = false := by simp [h11]
    have Hr : Hid (gnTwo k t = [⟨7, t, t, t + 1, 0⟩]) := by show _ = _; simp [gnTwo, h11]
    clear h7 h8 h9 h10 h11
    go_wp2_with fail
    refine (put_any ⟨7, t, t, t + 1, 0⟩ (regs3 (by have := Ht.out; omega) (by have := Ht.out; omega) (by have := Ht.out; omega) _ _) _ B m F N s (H.out.1.later ((Below.refl _ _).alloc (Nat.le_refl _) _)) (by have := H.out.2; omega)).mono ?_
    rintro E w2 ⟨rfl, m2, hM2, hG2⟩
    have H2 := Lib.hid (And.intro hM2 ((GStep.of_below m ((Below.refl _ _).alloc (Nat.le_refl _) _)).trans hG2))
    clear hM2 hG2
    go_wp2_with fail
    refine bodyPost_end (results_none rfl _ _ _) rfl ?_
    exact ⟨rfl, m2, by rw [Hr.out]; exact H2.out.1, H2.out.2⟩
  by_cases h12 : k = 12
  · have q7 : (k == 7) = false := by simp [h7]
    have q8 : (k == 8) = false := by simp [h8]
    have q9 : (k == 9) = false := by simp [h9]
    have q10 : (k == 10) = false := by simp [h10]
    have q11 : (k == 11) = false := by simp [h11]
    have q12 : (k == 12) = true := by simp [h12]
    have q13 : (k == 13) = false := by simp [h12]
    have q14 : (k == 14) = false := by simp [h12]
    have q17 : (k == 17) = false := by simp [h12]
    have q15 : (k == 15) = false := by simp [h12]
    have Hr : Hid (gnTwo k t = [⟨9, t, t, t + 1, 0⟩]) := by show _ = _; simp [gnTwo, h12]
    clear h7 h8 h9 h10 h11 h12
    go_wp2_with fail
    refine (put_any ⟨9, t, t, t + 1, 0⟩ (regs3 (by have := Ht.out; omega) (by have := Ht.out; omega) (by have := Ht.out; omega) _ _) _ B m F N s (H.out.1.later ((Below.refl _ _).alloc (Nat.le_refl _) _)) (by have := H.out.2; omega)).mono ?_
    rintro E w2 ⟨rfl, m2, hM2, hG2⟩
    have H2 := Lib.hid (And.intro hM2 ((GStep.of_below m ((Below.refl _ _).alloc (Nat.le_refl _) _)).trans hG2))
    clear hM2 hG2
    go_wp2_with fail
    refine bodyPost_end (results_none rfl _ _ _) rfl ?_
    exact ⟨rfl, m2, by rw [Hr.out]; exact H2.out.1, H2.out.2⟩
  by_cases h13 : k = 13
  · have q7 : (k == 7) = false := by simp [h7]
    have q8 : (k == 8) = false := by simp [h8]
    have q9 : (k == 9) = false := by simp [h9]
    have q10 : (k == 10) = false := by simp [h10]
    have q11 : (k == 11) = false := by simp [h11]
    have q12 : (k == 12) = false := by simp [h12]
    have q13 : (k == 13) = true := by simp [h13]
    have q14 : (k == 14) = false := by simp [h13]
    have q17 : (k == 17) = false := by simp [h13]
    have q15 : (k == 15) = false := by simp [h13]
    have Hr : Hid (gnTwo k t = [⟨9, t, t, t + 1, 0⟩] ++ [⟨10, t, t, 0, 0⟩]) := by show _ = _; simp [gnTwo, h13]
    clear h7 h8 h9 h10 h11 h12 h13
    go_wp2_with fail
    refine (put_any ⟨9, t, t, t + 1, 0⟩ (regs3 (by have := Ht.out; omega) (by have := Ht.out; omega) (by have := Ht.out; omega) _ _) _ B m F N s (H.out.1.later ((Below.refl _ _).alloc (Nat.le_refl _) _)) (by have := H.out.2; omega)).mono ?_
    rintro E w2 ⟨rfl, m2, hM2, hG2⟩
    have H2 := Lib.hid (And.intro hM2 ((GStep.of_below m ((Below.refl _ _).alloc (Nat.le_refl _) _)).trans hG2))
    clear hM2 hG2
    go_wp2_with fail
    have hp := put_any ⟨10, t, t, 0, 0⟩ (regs3 (by have := Ht.out; omega) (by have := Ht.out; omega) zero12 _ _) w2 B m2 F N _ H2.out.1 (by rw [GS.add_len]; have := H.out.2; simp; omega)
    rw [H2.out.2.b] at hp
    refine hp.mono ?_
    rintro E w3 ⟨rfl, m3, hM3, hG3⟩
    have H3 := Lib.hid (And.intro hM3 hG3)
    clear hM3 hG3
    go_wp2_with fail
    refine bodyPost_end (results_none rfl _ _ _) rfl ?_
    exact ⟨rfl, m3, by have h1 := H3.out.1; rw [GS.add_add] at h1; rw [Hr.out]; exact h1, H2.out.2.trans H3.out.2⟩
  by_cases h14 : k = 14
  · have q7 : (k == 7) = false := by simp [h7]
    have q8 : (k == 8) = false := by simp [h8]
    have q9 : (k == 9) = false := by simp [h9]
    have q10 : (k == 10) = false := by simp [h10]
    have q11 : (k == 11) = false := by simp [h11]
    have q12 : (k == 12) = false := by simp [h12]
    have q13 : (k == 13) = false := by simp [h13]
    have q14 : (k == 14) = true := by simp [h14]
    have q17 : (k == 17) = false := by simp [h14]
    have q15 : (k == 15) = false := by simp [h14]
    have Hr : Hid (gnTwo k t = [⟨8, t, t, t + 1, 0⟩]) := by show _ = _; simp [gnTwo, h14]
    clear h7 h8 h9 h10 h11 h12 h13 h14
    go_wp2_with fail
    refine (put_any ⟨8, t, t, t + 1, 0⟩ (regs3 (by have := Ht.out; omega) (by have := Ht.out; omega) (by have := Ht.out; omega) _ _) _ B m F N s (H.out.1.later ((Below.refl _ _).alloc (Nat.le_refl _) _)) (by have := H.out.2; omega)).mono ?_
    rintro E w2 ⟨rfl, m2, hM2, hG2⟩
    have H2 := Lib.hid (And.intro hM2 ((GStep.of_below m ((Below.refl _ _).alloc (Nat.le_refl _) _)).trans hG2))
    clear hM2 hG2
    go_wp2_with fail
    refine bodyPost_end (results_none rfl _ _ _) rfl ?_
    exact ⟨rfl, m2, by rw [Hr.out]; exact H2.out.1, H2.out.2⟩
  by_cases h17 : k = 17
  · have q7 : (k == 7) = false := by simp [h7]
    have q8 : (k == 8) = false := by simp [h8]
    have q9 : (k == 9) = false := by simp [h9]
    have q10 : (k == 10) = false := by simp [h10]
    have q11 : (k == 11) = false := by simp [h11]
    have q12 : (k == 12) = false := by simp [h12]
    have q13 : (k == 13) = false := by simp [h13]
    have q14 : (k == 14) = false := by simp [h14]
    have q17 : (k == 17) = true := by simp [h17]
    have q15 : (k == 15) = false := by simp [h17]
    have Hr : Hid (gnTwo k t = [⟨8, t, t, t + 1, 0⟩] ++ [⟨10, t, t, 0, 0⟩]) := by show _ = _; simp [gnTwo, h17]
    clear h7 h8 h9 h10 h11 h12 h13 h14 h17
    go_wp2_with fail
    refine (put_any ⟨8, t, t, t + 1, 0⟩ (regs3 (by have := Ht.out; omega) (by have := Ht.out; omega) (by have := Ht.out; omega) _ _) _ B m F N s (H.out.1.later ((Below.refl _ _).alloc (Nat.le_refl _) _)) (by have := H.out.2; omega)).mono ?_
    rintro E w2 ⟨rfl, m2, hM2, hG2⟩
    have H2 := Lib.hid (And.intro hM2 ((GStep.of_below m ((Below.refl _ _).alloc (Nat.le_refl _) _)).trans hG2))
    clear hM2 hG2
    go_wp2_with fail
    have hp := put_any ⟨10, t, t, 0, 0⟩ (regs3 (by have := Ht.out; omega) (by have := Ht.out; omega) zero12 _ _) w2 B m2 F N _ H2.out.1 (by rw [GS.add_len]; have := H.out.2; simp; omega)
    rw [H2.out.2.b] at hp
    refine hp.mono ?_
    rintro E w3 ⟨rfl, m3, hM3, hG3⟩
    have H3 := Lib.hid (And.intro hM3 hG3)
    clear hM3 hG3
    go_wp2_with fail
    refine bodyPost_end (results_none rfl _ _ _) rfl ?_
    exact ⟨rfl, m3, by have h1 := H3.out.1; rw [GS.add_add] at h1; rw [Hr.out]; exact h1, H2.out.2.trans H3.out.2⟩
  by_cases h15 : k = 15
  · have q7 : (k == 7) = false := by simp [h7]
    have q8 : (k == 8) = false := by simp [h8]
    have q9 : (k == 9) = false := by simp [h9]
    have q10 : (k == 10) = false := by simp [h10]
    have q11 : (k == 11) = false := by simp [h11]
    have q12 : (k == 12) = false := by simp [h12]
    have q13 : (k == 13) = false := by simp [h13]
    have q14 : (k == 14) = false := by simp [h14]
    have q17 : (k == 17) = false := by simp [h17]
    have q15 : (k == 15) = true := by simp [h15]
    have Hr : Hid (gnTwo k t = [⟨8, t, t + 1, t, 0⟩] ++ [⟨10, t, t, 0, 0⟩]) := by show _ = _; simp [gnTwo, h15]
    clear h7 h8 h9 h10 h11 h12 h13 h14 h17 h15
    go_wp2_with fail
    refine (put_any ⟨8, t, t + 1, t, 0⟩ (regs3 (by have := Ht.out; omega) (by have := Ht.out; omega) (by have := Ht.out; omega) _ _) _ B m F N s (H.out.1.later ((Below.refl _ _).alloc (Nat.le_refl _) _)) (by have := H.out.2; omega)).mono ?_
    rintro E w2 ⟨rfl, m2, hM2, hG2⟩
    have H2 := Lib.hid (And.intro hM2 ((GStep.of_below m ((Below.refl _ _).alloc (Nat.le_refl _) _)).trans hG2))
    clear hM2 hG2
    go_wp2_with fail
    have hp := put_any ⟨10, t, t, 0, 0⟩ (regs3 (by have := Ht.out; omega) (by have := Ht.out; omega) zero12 _ _) w2 B m2 F N _ H2.out.1 (by rw [GS.add_len]; have := H.out.2; simp; omega)
    rw [H2.out.2.b] at hp
    refine hp.mono ?_
    rintro E w3 ⟨rfl, m3, hM3, hG3⟩
    have H3 := Lib.hid (And.intro hM3 hG3)
    clear hM3 hG3
    go_wp2_with fail
    refine bodyPost_end (results_none rfl _ _ _) rfl ?_
    exact ⟨rfl, m3, by have h1 := H3.out.1; rw [GS.add_add] at h1; rw [Hr.out]; exact h1, H2.out.2.trans H3.out.2⟩
  · have q7 : (k == 7) = false := by simp [h7]
    have q8 : (k == 8) = false := by simp [h8]
    have q9 : (k == 9) = false := by simp [h9]
    have q10 : (k == 10) = false := by simp [h10]
    have q11 : (k == 11) = false := by simp [h11]
    have q12 : (k == 12) = false := by simp [h12]
    have q13 : (k == 13) = false := by simp [h13]
    have q14 : (k == 14) = false := by simp [h14]
    have q17 : (k == 17) = false := by simp [h17]
    have q15 : (k == 15) = false := by simp [h15]
    have Hr : Hid (gnTwo k t = [⟨8, t, t + 1, t, 0⟩]) := by show _ = _; simp [gnTwo, h7, h8, h9, h10, h11, h12, h13, h14, h17, h15]
    clear h7 h8 h9 h10 h11 h12 h13 h14 h17 h15
    go_wp2_with fail
    refine (put_any ⟨8, t, t + 1, t, 0⟩ (regs3 (by have := Ht.out; omega) (by have := Ht.out; omega) (by have := Ht.out; omega) _ _) _ B m F N s (H.out.1.later ((Below.refl _ _).alloc (Nat.le_refl _) _)) (by have := H.out.2; omega)).mono ?_
    rintro E w2 ⟨rfl, m2, hM2, hG2⟩
    have H2 := Lib.hid (And.intro hM2 ((GStep.of_below m ((Below.refl _ _).alloc (Nat.le_refl _) _)).trans hG2))
    clear hM2 hG2
    go_wp2_with fail
    refine bodyPost_end (results_none rfl _ _ _) rfl ?_
    exact ⟨rfl, m2, by rw [Hr.out]; exact H2.out.1, H2.out.2⟩
end Go.Proofs.YtgobcldecokppaaDoor
