/- The statements' own comparisons of lists: true just if the lists are the same. -/
import Derived.Test.YtapjdndcnenadaaDoorSameL
namespace Go.Proofs.YtapjdndcnenadaaDoor
open Go.RowKit

set_option maxHeartbeats 400000 in
theorem sameInts14_any (va vb : Value) (la lb : List Int) (w : World) (ha : IntsIn w va la) (hb : IntsIn w vb lb) (hla : la.length ≤ 1000000000000000) (_hlb : lb.length ≤ 1000000000000000) :
    Calls Tryd.prog 29 #[va, vb] w (Reads (.bool (decide (la = lb))) w) := by
  have ha0 := ha
  have hb0 := hb
  obtain ⟨-, aa, ca, rfl, -⟩ := ha0
  obtain ⟨-, ab, cb, rfl, -⟩ := hb0
  have Ha := Lib.hid ha
  have Hb := Lib.hid hb
  clear ha hb
  obtain ⟨n, hn⟩ : ∃ n, n = la.length := ⟨_, rfl⟩
  obtain ⟨m, hm⟩ : ∃ m, m = lb.length := ⟨_, rfl⟩
  rw [← hn] at hla ⊢
  rw [← hm] at _hlb ⊢
  by_cases hnm : n = m
  · have hd : (((n : Int) != m) = false) := by simp [hnm]
    have Hn := Lib.hid hn
    have Hm := Lib.hid hm
    have Hnm := Lib.hid hnm
    clear hn hm hnm
    go_enter Tryd.func29, Tryd.ntmps29
    go_wp2_with fail
    go_loopw [5] (fun i wr => ∃ k : Nat, k ≤ n ∧ i = .int .i64 k ∧ la.take k = lb.take k ∧ ∃ q, wr = w.drewN q) (fun i _ => n - (intOf i).toNat)
    case atStart => exact ⟨0, Nat.zero_le _, rfl, rfl, 0, rfl⟩
    case round =>
      obtain ⟨k, hk, rfl, heq, q, rfl⟩ := hrel
      have Heq := Lib.hid heq
      clear heq
      have hn := Hn.out
      have hm := Hm.out
      have hnm := Hnm.out
      by_cases hkn : k < n
      · obtain ⟨b1, o1, rfl, hb1, hc1⟩ := IntsIn.cell Ha.out (k := k) (by omega)
        obtain ⟨b2, o2, rfl, hb2, hc2⟩ := IntsIn.cell Hb.out (k := k) (by omega)
        have hkm : k < m := by omega
        have hstep := fun h => take_eq_succ (j := k) Heq.out (by omega) (by omega) 0 h
        have Hstep := Lib.hid hstep
        clear hn hm hnm hstep
        cases hE : (la.getD k 0 != lb.getD k 0)
        · have HE := Lib.hid hE
          generalize la.getD k 0 = y at *
          generalize lb.getD k 0 = z at *
          go_wp2_with (go_quiet (fail))
          go_roundw
          case rel => exact ⟨k + 1, by omega, by go_num, Hstep.out (by simpa using HE.out), _, rfl⟩
          case measure => simp [intOf]; omega
        · have HE : Hid (la ≠ lb) := by
            intro h; rw [h] at hE; simp at hE
          generalize la.getD k 0 = y at *
          generalize lb.getD k 0 = z at *
          go_wp2_with (go_quiet (fail))
          go_ret
          refine ⟨ret_bool ?_, _, World.drewN_drewN _ _ _⟩
          simp only [Bool.false_eq_true, decide_eq_true_eq, false_iff]
          exact HE.out
      · have hfin : la = lb := take_all (by rw [show la.length = k by omega]; exact Heq.out) (by omega)
        have Hfin := Lib.hid hfin
        clear hfin hn hm hnm
        go_wp2_with fail
        go_ret
        exact ⟨ret_bool (by simp [Hfin.out]), _, rfl⟩
  · have hd : (((n : Int) != m) = true) := bne_iff_ne.2 (by omega)
    have Hn := Lib.hid hn
    have Hm := Lib.hid hm
    have Hnm := Lib.hid hnm
    clear hn hm hnm
    go_enter Tryd.func29, Tryd.ntmps29
    go_wp2_with fail
    go_ret
    refine ⟨ret_bool ?_, 0, rfl⟩
    simp only [Bool.false_eq_true, decide_eq_true_eq, false_iff]
    rintro rfl
    exact Hnm.out (Hn.out.trans Hm.out.symm)

end Go.Proofs.YtapjdndcnenadaaDoor
