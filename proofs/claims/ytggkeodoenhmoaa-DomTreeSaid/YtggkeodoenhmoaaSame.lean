/- The statements' own comparisons of lists: true just if the lists are the same. -/
import Derived.Test.YtggkeodoenhmoaaBase
namespace Go.Proofs.Ytggkeodoenhmoaa
open Go.RowKit

theorem IntsIn.cell {w : World} {a : Option Addr} {n cap : Nat} {l : List Int} (h : IntsIn w (.slice a n cap) l) {k : Nat} (hk : k < l.length) :
    ∃ b off, a = some ⟨b, off, none⟩ ∧ b < w.heap.size ∧ w.cell? ⟨b, off + k, none⟩ = some (.int .i64 (l.getD k 0)) := by
  obtain ⟨_, a', cap', hv, _, _, _, hc⟩ := h
  cases hv
  obtain ⟨b, off, rfl, hb, hc⟩ := hc (by omega)
  exact ⟨b, off, rfl, hb, hc k _ (by simp [intVs, List.getD, List.getElem?_eq_getElem hk])⟩

theorem BoolsIn.cell {w : World} {a : Option Addr} {n cap : Nat} {l : List Bool} (h : BoolsIn w (.slice a n cap) l) {k : Nat} (hk : k < l.length) :
    ∃ b off, a = some ⟨b, off, none⟩ ∧ b < w.heap.size ∧ w.cell? ⟨b, off + k, none⟩ = some (.bool (l.getD k false)) := by
  obtain ⟨_, a', cap', hv, _, _, _, hc⟩ := h
  cases hv
  obtain ⟨b, off, rfl, hb, hc⟩ := hc (by omega)
  exact ⟨b, off, rfl, hb, hc k _ (by simp [boolVs, List.getD, List.getElem?_eq_getElem hk])⟩

theorem bne_not : ∀ y z : Bool, (y != z) = true → y = !z := by decide
theorem take_eq_succ {α : Type} [Inhabited α] {a b : List α} {j : Nat} (h : a.take j = b.take j) (ha : j < a.length) (hb : j < b.length) (d : α) (he : a.getD j d = b.getD j d) : a.take (j + 1) = b.take (j + 1) := by
  rw [List.take_succ_eq_append_getElem ha, List.take_succ_eq_append_getElem hb, h]
  simp [List.getD, ha, hb] at he
  rw [he]

theorem take_all {α : Type} {a b : List α} (h : a.take a.length = b.take a.length) (hl : a.length = b.length) : a = b := by
  rw [List.take_length, hl, List.take_length] at h; exact h

set_option maxHeartbeats 400000 in
theorem sameInts_any (va vb : Value) (la lb : List Int) (w : World) (ha : IntsIn w va la) (hb : IntsIn w vb lb) (hla : la.length ≤ 1000000000000000) (_hlb : lb.length ≤ 1000000000000000) :
    Calls Try.prog 16 #[va, vb] w (Reads (.bool (decide (la = lb))) w) := by
  have ha0 := ha
  have hb0 := hb
  obtain ⟨_, aa, ca, rfl, _⟩ := ha0
  obtain ⟨_, ab, cb, rfl, _⟩ := hb0
  have Ha := Lib.hid ha
  have Hb := Lib.hid hb
  clear ha hb
  obtain ⟨n, hn⟩ : ∃ n, n = la.length := ⟨_, rfl⟩
  obtain ⟨m, hm⟩ : ∃ m, m = lb.length := ⟨_, rfl⟩
  rw [← hn] at hla ⊢
  rw [← hm] at _hlb ⊢
  by_cases hnm : n = m
  · have hd : (((n : Int) != m) = false) := by simp [hnm]
    have Hn := Lib.hid hn
    have Hm := Lib.hid hm
    have Hnm := Lib.hid hnm
    clear hn hm hnm
    go_enter Try.func16, Try.ntmps16
    go_wp2_with fail
    go_loopw [5] (fun i wr => ∃ k : Nat, k ≤ n ∧ i = .int .i64 k ∧ la.take k = lb.take k ∧ ∃ q, wr = w.drewN q) (fun i _ => n - (intOf i).toNat)
    case atStart => exact ⟨0, Nat.zero_le _, rfl, rfl, 0, rfl⟩
    case round =>
      obtain ⟨k, hk, rfl, heq, q, rfl⟩ := hrel
      have Heq := Lib.hid heq
      clear heq
      have hn := Hn.out
      have hm := Hm.out
      have hnm := Hnm.out
      by_cases hkn : k < n
      · obtain ⟨b1, o1, rfl, hb1, hc1⟩ := IntsIn.cell Ha.out (k := k) (by omega)
        obtain ⟨b2, o2, rfl, hb2, hc2⟩ := IntsIn.cell Hb.out (k := k) (by omega)
        have hkm : k < m := by omega
        have hstep := fun h => take_eq_succ (j := k) Heq.out (by omega) (by omega) 0 h
        have Hstep := Lib.hid hstep
        clear hn hm hnm hstep
        cases hE : (la.getD k 0 != lb.getD k 0)
        · have HE := Lib.hid hE
          generalize la.getD k 0 = y at *
          generalize lb.getD k 0 = z at *
          go_wp2_with (go_quiet (fail))
          go_roundw
          case rel => exact ⟨k + 1, by omega, by go_num, Hstep.out (by simpa using HE.out), _, rfl⟩
          case measure => simp [intOf]; omega
        · have HE : Hid (la ≠ lb) := by
            intro h; rw [h] at hE; simp at hE
          generalize la.getD k 0 = y at *
          generalize lb.getD k 0 = z at *
          go_wp2_with (go_quiet (fail))
          go_ret
          refine ⟨ret_bool ?_, _, World.drewN_drewN _ _ _⟩
          simp only [Bool.false_eq_true, decide_eq_true_eq, false_iff]
          exact HE.out
      · have hfin : la = lb := take_all (by rw [show la.length = k by omega]; exact Heq.out) (by omega)
        have Hfin := Lib.hid hfin
        clear hfin hn hm hnm
        go_wp2_with fail
        go_ret
        exact ⟨ret_bool (by simp [Hfin.out]), _, rfl⟩
  · have hd : (((n : Int) != m) = true) := bne_iff_ne.2 (by omega)
    have Hn := Lib.hid hn
    have Hm := Lib.hid hm
    have Hnm := Lib.hid hnm
    clear hn hm hnm
    go_enter Try.func16, Try.ntmps16
    go_wp2_with fail
    go_ret
    refine ⟨ret_bool ?_, 0, rfl⟩
    simp only [Bool.false_eq_true, decide_eq_true_eq, false_iff]
    rintro rfl
    exact Hnm.out (Hn.out.trans Hm.out.symm)

set_option maxHeartbeats 400000 in
theorem sameBools_any (va vb : Value) (la lb : List Bool) (w : World) (ha : BoolsIn w va la) (hb : BoolsIn w vb lb) (hla : la.length ≤ 1000000000000000) (_hlb : lb.length ≤ 1000000000000000) :
    Calls Try.prog 20 #[va, vb] w (Reads (.bool (decide (la = lb))) w) := by
  have ha0 := ha
  have hb0 := hb
  obtain ⟨_, aa, ca, rfl, _⟩ := ha0
  obtain ⟨_, ab, cb, rfl, _⟩ := hb0
  have Ha := Lib.hid ha
  have Hb := Lib.hid hb
  clear ha hb
  obtain ⟨n, hn⟩ : ∃ n, n = la.length := ⟨_, rfl⟩
  obtain ⟨m, hm⟩ : ∃ m, m = lb.length := ⟨_, rfl⟩
  rw [← hn] at hla ⊢
  rw [← hm] at _hlb ⊢
  by_cases hnm : n = m
  · have hd : (((n : Int) != m) = false) := by simp [hnm]
    have Hn := Lib.hid hn
    have Hm := Lib.hid hm
    have Hnm := Lib.hid hnm
    clear hn hm hnm
    go_enter Try.func20, Try.ntmps20
    go_wp2_with fail
    go_loopw [5] (fun i wr => ∃ k : Nat, k ≤ n ∧ i = .int .i64 k ∧ la.take k = lb.take k ∧ ∃ q, wr = w.drewN q) (fun i _ => n - (intOf i).toNat)
    case atStart => exact ⟨0, Nat.zero_le _, rfl, rfl, 0, rfl⟩
    case round =>
      obtain ⟨k, hk, rfl, heq, q, rfl⟩ := hrel
      have Heq := Lib.hid heq
      clear heq
      have hn := Hn.out
      have hm := Hm.out
      have hnm := Hnm.out
      by_cases hkn : k < n
      · obtain ⟨b1, o1, rfl, hb1, hc1⟩ := BoolsIn.cell Ha.out (k := k) (by omega)
        obtain ⟨b2, o2, rfl, hb2, hc2⟩ := BoolsIn.cell Hb.out (k := k) (by omega)
        have hkm : k < m := by omega
        have hstep := fun h => take_eq_succ (j := k) Heq.out (by omega) (by omega) false h
        have Hstep := Lib.hid hstep
        clear hn hm hnm hstep
        cases hE : (la.getD k false != lb.getD k false)
        · have HE := Lib.hid hE
          have HE2 : la.getD k false = lb.getD k false := by simpa using HE.out
          have HS : Hid (la.take (k + 1) = lb.take (k + 1)) := Hstep.out HE2
          rw [← HE2] at hc2
          clear hE HE HE2 Hstep
          generalize la.getD k false = y at *
          cases y
          all_goals
            go_wp2_with (go_quiet (fail))
            go_roundw
            case rel => exact ⟨k + 1, by omega, by go_num, HS.out, _, rfl⟩
            case measure => simp [intOf]; omega
        · have HE : Hid (la ≠ lb) := by
            intro h; rw [h] at hE; simp at hE
          clear Hstep
          generalize la.getD k false = y at *
          generalize lb.getD k false = z at *
          have hyz : y = !z := bne_not y z hE
          clear hE
          subst hyz
          cases z
          all_goals
            go_wp2_with (go_quiet (fail))
            go_ret
            refine ⟨ret_bool ?_, _, World.drewN_drewN _ _ _⟩
            simp only [Bool.false_eq_true, decide_eq_true_eq, false_iff]
            exact HE.out
      · have hfin : la = lb := take_all (by rw [show la.length = k by omega]; exact Heq.out) (by omega)
        have Hfin := Lib.hid hfin
        clear hfin hn hm hnm
        go_wp2_with fail
        go_ret
        exact ⟨ret_bool (by simp [Hfin.out]), _, rfl⟩
  · have hd : (((n : Int) != m) = true) := bne_iff_ne.2 (by omega)
    have Hn := Lib.hid hn
    have Hm := Lib.hid hm
    have Hnm := Lib.hid hnm
    clear hn hm hnm
    go_enter Try.func20, Try.ntmps20
    go_wp2_with fail
    go_ret
    refine ⟨ret_bool ?_, 0, rfl⟩
    simp only [Bool.false_eq_true, decide_eq_true_eq, false_iff]
    rintro rfl
    exact Hnm.out (Hn.out.trans Hm.out.symm)

set_option maxHeartbeats 400000 in
theorem sameInts13_any (va vb : Value) (la lb : List Int) (w : World) (ha : IntsIn w va la) (hb : IntsIn w vb lb) (hla : la.length ≤ 1000000000000000) (_hlb : lb.length ≤ 1000000000000000) :
    Calls Try.prog 31 #[va, vb] w (Reads (.bool (decide (la = lb))) w) := by
  have ha0 := ha
  have hb0 := hb
  obtain ⟨_, aa, ca, rfl, _⟩ := ha0
  obtain ⟨_, ab, cb, rfl, _⟩ := hb0
  have Ha := Lib.hid ha
  have Hb := Lib.hid hb
  clear ha hb
  obtain ⟨n, hn⟩ : ∃ n, n = la.length := ⟨_, rfl⟩
  obtain ⟨m, hm⟩ : ∃ m, m = lb.length := ⟨_, rfl⟩
  rw [← hn] at hla ⊢
  rw [← hm] at _hlb ⊢
  by_cases hnm : n = m
  · have hd : (((n : Int) != m) = false) := by simp [hnm]
    have Hn := Lib.hid hn
    have Hm := Lib.hid hm
    have Hnm := Lib.hid hnm
    clear hn hm hnm
    go_enter Try.func31, Try.ntmps31
    go_wp2_with fail
    go_loopw [5] (fun i wr => ∃ k : Nat, k ≤ n ∧ i = .int .i64 k ∧ la.take k = lb.take k ∧ ∃ q, wr = w.drewN q) (fun i _ => n - (intOf i).toNat)
    case atStart => exact ⟨0, Nat.zero_le _, rfl, rfl, 0, rfl⟩
    case round =>
      obtain ⟨k, hk, rfl, heq, q, rfl⟩ := hrel
      have Heq := Lib.hid heq
      clear heq
      have hn := Hn.out
      have hm := Hm.out
      have hnm := Hnm.out
      by_cases hkn : k < n
      · obtain ⟨b1, o1, rfl, hb1, hc1⟩ := IntsIn.cell Ha.out (k := k) (by omega)
        obtain ⟨b2, o2, rfl, hb2, hc2⟩ := IntsIn.cell Hb.out (k := k) (by omega)
        have hkm : k < m := by omega
        have hstep := fun h => take_eq_succ (j := k) Heq.out (by omega) (by omega) 0 h
        have Hstep := Lib.hid hstep
        clear hn hm hnm hstep
        cases hE : (la.getD k 0 != lb.getD k 0)
        · have HE := Lib.hid hE
          generalize la.getD k 0 = y at *
          generalize lb.getD k 0 = z at *
          go_wp2_with (go_quiet (fail))
          go_roundw
          case rel => exact ⟨k + 1, by omega, by go_num, Hstep.out (by simpa using HE.out), _, rfl⟩
          case measure => simp [intOf]; omega
        · have HE : Hid (la ≠ lb) := by
            intro h; rw [h] at hE; simp at hE
          generalize la.getD k 0 = y at *
          generalize lb.getD k 0 = z at *
          go_wp2_with (go_quiet (fail))
          go_ret
          refine ⟨ret_bool ?_, _, World.drewN_drewN _ _ _⟩
          simp only [Bool.false_eq_true, decide_eq_true_eq, false_iff]
          exact HE.out
      · have hfin : la = lb := take_all (by rw [show la.length = k by omega]; exact Heq.out) (by omega)
        have Hfin := Lib.hid hfin
        clear hfin hn hm hnm
        go_wp2_with fail
        go_ret
        exact ⟨ret_bool (by simp [Hfin.out]), _, rfl⟩
  · have hd : (((n : Int) != m) = true) := bne_iff_ne.2 (by omega)
    have Hn := Lib.hid hn
    have Hm := Lib.hid hm
    have Hnm := Lib.hid hnm
    clear hn hm hnm
    go_enter Try.func31, Try.ntmps31
    go_wp2_with fail
    go_ret
    refine ⟨ret_bool ?_, 0, rfl⟩
    simp only [Bool.false_eq_true, decide_eq_true_eq, false_iff]
    rintro rfl
    exact Hnm.out (Hn.out.trans Hm.out.symm)

end Go.Proofs.Ytggkeodoenhmoaa
