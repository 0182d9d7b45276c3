/- The reference's Next: it returns, in new memory, the list nextL of the code and the number. -/
import Derived.Test.YtapjdndcnenadaaDoorNext
namespace Go.Proofs.YtapjdndcnenadaaDoor
open Go.RowKit

theorem nextOf_no {op a b c n : Int} {len k : Nat} {l1 : List Int} (h : (targetB op && (decide (0 ≤ n) && decide (n < len)) && !(aheadB op && n == (k : Int) + 1)) = false)
    (h2 : (if (aheadB op && decide (k + 1 < len)) = true then [(k : Int) + 1] else []) = l1) : nextOf ⟨op, a, b, c, n⟩ len k = l1 := by
  unfold nextOf
  rw [if_neg (c := targetB _ = true ∧ _) (by
    rintro ⟨g1, g2, g3, g4⟩
    simp only at g1 g2 g3 g4
    rw [g1, decide_eq_true g2, decide_eq_true g3] at h
    simp at h
    exact g4 h), List.append_nil, ← h2]
  simp
theorem nextOf_yes {op a b c n : Int} {len k : Nat} {l1 : List Int} (h : (targetB op && (decide (0 ≤ n) && decide (n < len)) && !(aheadB op && n == (k : Int) + 1)) = true)
    (h2 : (if (aheadB op && decide (k + 1 < len)) = true then [(k : Int) + 1] else []) = l1) : nextOf ⟨op, a, b, c, n⟩ len k = l1 ++ [n] := by
  unfold nextOf
  rw [if_pos (c := targetB _ = true ∧ _) (by
    simp only [Bool.and_eq_true, decide_eq_true_eq, Bool.not_eq_true', Bool.and_eq_false_iff, beq_eq_false_iff_ne] at h
    refine ⟨h.1.1, h.1.2.1, h.1.2.2, fun g => ?_⟩
    rcases h.2 with h | h
    · simp [h] at g
    · exact h g.2), ← h2]
  simp

/-- What stays of the world: the function's code, the instruction's number and target. -/
structure RN (w w1 : World) (b off len cap : Nat) (op n : Int) : Prop where
  f : w1.cell? ⟨w.heap.size, 4, none⟩ = some (.slice (some ⟨b, off, none⟩) len cap)
  i0 : w1.cell? ⟨w.heap.size + 1 + 1, 0, none⟩ = some (.int .i64 op)
  i4 : w1.cell? ⟨w.heap.size + 1 + 1, 4, none⟩ = some (.int .i64 n)
  size : w.heap.size + 1 + 1 < w1.heap.size
  below : Below w.heap.size w w1

theorem RN.grown {w w1 w2 : World} {b off len cap : Nat} {op n : Int} {o : Obj} {v : Value} (h : RN w w1 b off len cap op n) (hg : (w1.alloc o).grownBy w2 v.ownBlock) (h1 : v.ownBlock ≠ some w.heap.size) (h2 : v.ownBlock ≠ some (w.heap.size + 1 + 1))
    (hb : Below w.heap.size w w2) : RN w w2 b off len cap op n := by
  have hs := hg.size
  have hz := h.size
  simp only [World.size_alloc] at hs
  refine ⟨?_, ?_, ?_, by omega, hb⟩
  · exact hg.cell ((World.cell?_alloc_past _ _ _ (by show w.heap.size < _; omega)).trans h.f) (Ne.symm h1)
  · exact hg.cell ((World.cell?_alloc_past _ _ _ (by show w.heap.size + 1 + 1 < _; omega)).trans h.i0) (Ne.symm h2)
  · exact hg.cell ((World.cell?_alloc_past _ _ _ (by show w.heap.size + 1 + 1 < _; omega)).trans h.i4) (Ne.symm h2)

set_option maxRecDepth 100000 in
set_option maxHeartbeats 1000000 in
theorem rnext_in (s : ByteArray) (vp : Value) (regs words : Int) (code : List Ins) (b off cap : Nat) (k : Nat) (x : Ins) (w : World) (hx : code[k]? = some x) (hk : k < code.length) (hlen : code.length * 40 ≤ 140737488351232) (hb : b < w.heap.size)
    (hc : CodeIn w (.slice (some ⟨b, off, none⟩) code.length cap) code) :
    Calls Tryd.prog 31 #[fnV s vp regs words (.slice (some ⟨b, off, none⟩) code.length cap), .int .i64 k] w (RetInts (nextOf x code.length k) w) := by
  obtain ⟨h0, h1, h2, h3, h4⟩ := CodeIn.at hc rfl hx
  clear hx hc
  generalize code.length = len at *
  obtain ⟨op, a, b1, c, n⟩ := x
  simp only at h0 h1 h2 h3 h4
  go_enter Tryd.func31, Tryd.ntmps31
  go_upto_region 6 with (go_at_call 39; refine (rknown_any _ _).mono ?_; rintro e w' ⟨rfl, rfl⟩)
  go_cut [7, 8] (fun v7 v wc => v7 = .bool (knownB op) ∧ v = .bool (aheadB op) ∧ wc.cell? ⟨w.heap.size, 4, none⟩ = some (.slice (some ⟨b, off, none⟩) len cap) ∧ wc.cell? ⟨w.heap.size + 1 + 1, 0, none⟩ = some (.int .i64 op) ∧
    wc.cell? ⟨w.heap.size + 1 + 1, 4, none⟩ = some (.int .i64 n) ∧ w.heap.size + 1 + 1 < wc.heap.size ∧ Below w.heap.size w wc ∧ OwnInts wc w.heap.size (.slice (some ⟨w.heap.size + 1, 0, none⟩) 0 0) [])
  case first =>
    go_wp2_with fail
    all_goals go_meet
    all_goals case rel =>
      go_light
      refine ⟨?_, ?_, ?_, ?_, ?_, ?_, ?_, ?_⟩
      · simp_all
      · simp_all [aheadB, bne, Bool.and_assoc]
      · rw [World.cell?_alloc_past _ _ _ (by (try simp only [World.size_alloc]); (try simp only [size_set]); omega), World.cell?_alloc_past _ _ _ (by (try simp only [World.size_alloc]); (try simp only [size_set]); omega), World.cell?_alloc_at _ _ _ _ rfl]; rfl
      · rw [World.cell?_alloc_at _ _ _ _ (by simp)]; simp_all
      · rw [World.cell?_alloc_at _ _ _ _ (by simp)]; rfl
      · simp
      · exact (((Below.refl _ _).alloc (Nat.le_refl _) _).alloc (by (try simp only [World.size_alloc]); (try simp only [size_set]); omega) _).alloc (by (try simp only [World.size_alloc]); (try simp only [size_set]); omega) _
      · refine World.ownsRow.alloc ?_ _; simpa [intVs] using owns_empty (B := w.heap.size) (w.alloc _) 3 1 (by simp)
  case rest =>
    obtain ⟨rfl, rfl, hf, hi0, hi4, hz, hbl, hown⟩ := hcut
    have Hown := Lib.hid hown
    have Hbl := Lib.hid hbl
    clear h0 h1 h2 h3 h4 hown hbl
    have Hz : w.heap.size < wc.heap.size := by omega
    go_upto_region 7 with (fail)
    go_cut [8, 53] (fun v8 v w1 => v8 = .bool (aheadB op) ∧ v = .bool (aheadB op && decide (k + 1 < len)) ∧ wc = w1)
    case first =>
      go_wp2_with fail
      all_goals go_meet
      all_goals case rel =>
        go_light
        refine ⟨?_, ?_, ?_⟩
        · simp_all
        · simp_all <;> omega
        · rfl
    case rest =>
    obtain ⟨rfl, rfl, rfl⟩ := hcut
    go_upto_if 53 with (fail)
    go_cut [8, 5, 53] (fun v8 v v53 w1 => v8 = .bool (aheadB op) ∧ RN w w1 b off len cap op n ∧ OwnInts w1 w.heap.size v (if (aheadB op && decide (k + 1 < len)) = true then [(k : Int) + 1] else []) ∧ v.ownBlock ≠ some w.heap.size ∧ v.ownBlock ≠ some (w.heap.size + 1 + 1))
    case first =>
      have hR : RN w wc b off len cap op n := ⟨hf, hi0, hi4, hz, Hbl.out⟩
      have HR := Lib.hid hR
      clear hR
      have hkb : (k : Int) + 1 ≤ 140737488351232 := by omega
      cases hA : (aheadB op && decide (k + 1 < len))
      · go_wp2_with fail
        go_meet
        case rel => exact ⟨rfl, HR.out, by rw [hA]; exact Hown.out, by simp [Value.ownBlock], by simp [Value.ownBlock]⟩
      · go_wp2_with (at_builtin; refine append_int rfl _ _ rfl w.heap.size _ _ rfl Hown.out _ rfl (by simp) (by omega) ?_)
        intro v' w' hown' hgr hfr hbb
        have hR2 : RN w w' b off len cap op n := RN.grown HR.out hgr (by simp [Value.ownBlock]) (by simp [Value.ownBlock]) (hbb _ _ HR.out.below (Nat.le_refl _))
        have HH := Lib.hid hown'
        have HR2 := Lib.hid hR2
        have HF := Lib.hid hfr
        clear hown' hgr hfr hbb hR2
        go_wp2_with fail
        go_meet
        case rel => exact ⟨rfl, HR2.out, by rw [hA]; exact HH.out, HF.out _ (by simp; omega) (by simp [Value.ownBlock]), HF.out _ (by simp; omega) (by simp [Value.ownBlock])⟩
    case rest =>
    obtain ⟨rfl, hR, hown, ha1, ha2⟩ := hcut
    generalize hl1 : (if (aheadB op && decide (k + 1 < len)) = true then [(k : Int) + 1] else []) = l1 at hown
    have hl1' : l1.length ≤ 1000000000000 := by rw [← hl1]; split <;> simp
    have HR := Lib.hid hR
    have Hl1 := Lib.hid hl1
    have Hown1 := Lib.hid hown
    have Ha1 := Lib.hid ha1
    have Ha2 := Lib.hid ha2
    clear hR hl1 hown ha1 ha2 Hown Hbl hf hi0 hi4 hz Hz
    have hf := HR.out.f
    have hi0 := HR.out.i0
    have hi4 := HR.out.i4
    have hz := HR.out.size
    go_upto_region 9 with (fail)
    go_cut [8, 9] (fun v8 v9 w1 => v8 = .bool (aheadB op) ∧ v9 = .bool (targetB op && (decide (0 ≤ n) && decide (n < len))) ∧ wc = w1)
    case first =>
      go_wp2_with (go_at_call 40; refine (target_any _ _).mono ?_; rintro e w' ⟨rfl, rfl⟩)
      all_goals go_meet
      all_goals case rel =>
        go_light
        refine ⟨?_, ?_, ?_⟩
        · simp_all
        · simp_all <;> omega
        · rfl
    case rest =>
    obtain ⟨rfl, rfl, rfl⟩ := hcut
    have hkb : (k : Int) + 1 ≤ 140737488351232 := by omega
    have hkb0 : 0 ≤ (k : Int) + 1 := by omega
    go_upto_region 10 with (fail)
    go_cut [8, 9, 86] (fun v8 v9 v w1 => v8 = .bool (aheadB op) ∧ v = .bool (targetB op && (decide (0 ≤ n) && decide (n < len)) && !(aheadB op && n == (k : Int) + 1)) ∧ wc = w1)
    case first =>
      cases hT : (targetB op && (decide (0 ≤ n) && decide (n < len)))
      all_goals cases hE : (n == (k : Int) + 1)
      all_goals cases hH : aheadB op
      all_goals go_wp2_with fail
      all_goals go_meet
      all_goals case rel => exact ⟨by rw [hH], by rw [hT, hE, hH]; rfl, rfl⟩
    case rest =>
    obtain ⟨rfl, rfl, rfl⟩ := hcut
    cases hA : (targetB op && (decide (0 ≤ n) && decide (n < len)) && !(aheadB op && n == (k : Int) + 1))
    · have HA := Lib.hid hA
      go_wp2_with fail
      go_ret
      refine ⟨_, rfl, ?_, HR.out.below⟩
      have e : nextOf ⟨op, a, b1, c, n⟩ len k = l1 := nextOf_no HA.out Hl1.out
      rw [e]
      exact Hown1.out
    · have HA := Lib.hid hA
      go_wp2_with (at_builtin; refine append_int rfl _ _ rfl w.heap.size _ _ rfl Hown1.out _ rfl hl1' (by omega) ?_)
      intro v' w' hown' hgr hfr hbb
      have hb2 := hbb _ _ HR.out.below (Nat.le_refl _)
      have HH := Lib.hid hown'
      have HB := Lib.hid hb2
      clear hown' hgr hfr hbb hb2
      go_wp2_with fail
      go_ret
      refine ⟨_, rfl, ?_, HB.out⟩
      have e : nextOf ⟨op, a, b1, c, n⟩ len k = l1 ++ [n] := nextOf_yes HA.out Hl1.out
      rw [e]
      exact HH.out

set_option maxHeartbeats 400000 in
theorem rnext_any (s : ByteArray) (vp : Value) (regs words : Int) (vc : Value) (code : List Ins) (k : Int) (w : World) (hlen : code.length * 40 ≤ 140737488351232) (hc : CodeIn w vc code) :
    Calls Tryd.prog 31 #[fnV s vp regs words vc, .int .i64 k] w (RetInts (nextL code k) w) := by
  have hc0 := hc
  obtain ⟨_, a, cap, rfl, h1, h2, h3, h4⟩ := hc0
  by_cases hk : k < 0
  · have e : nextL code k = [] := by simp [nextL, hk]
    rw [e]
    clear hc h4 h3 h2 h1
    go_enter Tryd.func31, Tryd.ntmps31
    go_wp2_with fail
    go_ret
    refine ⟨_, rfl, ?_, ((Below.refl _ _).alloc (Nat.le_refl _) _).alloc (by (try simp only [World.size_alloc]); (try simp only [size_set]); omega) _⟩
    simpa [OwnInts, intVs] using owns_empty (B := w.heap.size) (w.alloc _) 3 1 (by simp)
  by_cases hk2 : code.length ≤ k
  · have e : nextL code k = [] := by simp only [nextL, if_neg hk]; rw [List.getElem?_eq_none (by omega)]
    rw [e]
    clear hc h4 h3 h2 h1
    have hkk : 0 ≤ k := by omega
    go_enter Tryd.func31, Tryd.ntmps31
    go_wp2_with fail
    go_ret
    refine ⟨_, rfl, ?_, ((Below.refl _ _).alloc (Nat.le_refl _) _).alloc (by (try simp only [World.size_alloc]); (try simp only [size_set]); omega) _⟩
    simpa [OwnInts, intVs] using owns_empty (B := w.heap.size) (w.alloc _) 3 1 (by simp)
  obtain ⟨q, rfl⟩ := Int.eq_ofNat_of_zero_le (show 0 ≤ k by omega)
  have hq : q < code.length := by omega
  obtain ⟨b, off, rfl, hb, _⟩ := h4 (by omega)
  have e : nextL code q = nextOf code[q] code.length q := by simp [nextL, hq, hk]
  rw [e]
  exact rnext_in s vp regs words code b off cap q code[q] w (List.getElem?_eq_getElem hq) hq hlen hb hc
end Go.Proofs.YtapjdndcnenadaaDoor
