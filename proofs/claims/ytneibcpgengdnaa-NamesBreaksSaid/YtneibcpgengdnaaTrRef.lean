/- R2.Nodes: how many parts a program has, up to one more than may be. -/
import Derived.Test.YtneibcpgengdnaaTrCnt
namespace Go.Proofs.Ytneibcpgengdnaa
open Go.RowKit

/-- What the reference counts of t parts: all, or one more than may be. -/
def leftN (t : Nat) (left : Int) : Nat := min t (left + 1).toNat
theorem rexprs_any (l : List Ex) (v : Value) (w0 : World) (h : ExsIn w0 l v) : ∀ W (left : Int), Below w0.heap.size w0 W → -9 ≤ left → left ≤ 1099511627776 →
    Calls Try.prog 58 #[v, .int .i64 left] W (fun e W' => e = .returned (.int .i64 (leftN (Ex.totals l) left : Nat)) ∧ W = W') := by
  induction h with
  | mk l v vs h each ih =>
  intro W left hB hl1 hl2
  obtain ⟨a, cap, rfl, hncap, hcap⟩ := h.form
  obtain ⟨n, hn⟩ : ∃ n, n = l.length := ⟨_, rfl⟩
  have Hn := Lib.hid hn
  have Hrow : Hid (RowOf w0 (.slice a n cap) l.length 4 (fun b o i => ∀ x, l[i]? = some x → ExAt w0 b o x (vs i))) := by rw [hn]; exact h
  have Hih := Lib.hid (And.intro ih each)
  have HB := Lib.hid hB
  rw [← hn]
  rw [← hn] at hncap
  have hn62 : n ≤ 9223372036854775807 := by have : maxLen ≤ 9223372036854775807 := by decide
                                            omega
  clear h ih each hn hB
  go_enter Try.func58, Try.ntmps58
  go_wp2_with fail
  go_loopg [5, 6] n (fun g nv iv wx => ∃ i m : Nat, g = n - i ∧ iv = .int .i64 (i : Int) ∧ nv = .int .i64 (m : Int) ∧ i ≤ n ∧ m = leftN (Ex.totals (l.take i)) left ∧ wx = W)
  case atStart => exact ⟨0, 0, rfl, rfl, rfl, Nat.zero_le _, by simp [Ex.totals, leftN], rfl⟩
  case round =>
    obtain ⟨i, m, hg, rfl, rfl, hi, hm, rfl⟩ := hrel
    have hml : (m : Int) ≤ max 0 (left + 1) := by rw [hm]; unfold leftN; omega
    have Hm := Lib.hid hm
    clear hm
    by_cases hin : i < n
    · by_cases hmle : (m : Int) ≤ left
      · obtain ⟨x, hx⟩ : ∃ x, l[i]? = some x := ⟨_, List.getElem?_eq_getElem (by rw [← Hn.out]; exact hin)⟩
        obtain ⟨b, off, rfl, hb, hP⟩ := Hrow.out.at (i := i) (by rw [← Hn.out]; exact hin)
        obtain ⟨i0, i1, i2, i3⟩ := (hP x hx).later HB.out hb
        have ihx := Hih.out.1 i x hx
        obtain ⟨a', cap', hvs, hn', hc'⟩ := (Hih.out.2 i x hx).form
        rw [hvs] at i3 ihx
        have Hihx := Lib.hid ihx
        have Hx := Lib.hid hx
        have Hg := Lib.hid hg
        clear hP hx hg ihx hvs i0 i1 i2
        go_wp2_with fail
        refine (Hihx.out _ (left - m - 1) HB.out (by omega) (by omega)).mono ?_
        rintro e w1 ⟨rfl, hw1⟩
        rw [← hw1]
        clear hw1
        obtain ⟨r, hr⟩ : ∃ r : Nat, r = leftN (Ex.totals x.args) (left - m - 1) := ⟨_, rfl⟩
        have hrl : (r : Int) ≤ left - m := by rw [hr]; unfold leftN; omega
        rw [← hr]
        have Hr := Lib.hid hr
        clear hr i3
        go_wp2_with fail
        go_roundg (n - (i + 1))
        case measure => have := Hg.out; omega
        case rel => exact ⟨i + 1, m + (1 + r), rfl, by go_num, by go_num, hin, by
            have h1 := Ex.totals_take Hx.out
            have h2 := Ex.total_eq x
            have h3 := Hm.out
            have h4 := Hr.out
            unfold leftN at *
            omega, rfl⟩
      · have Hres : Hid (leftN (Ex.totals l) left = m) := by
          show _ = _
          have h := Ex.totals_le (l := l) i
          have h3 := Hm.out
          unfold leftN at *
          omega
        go_wp2_with fail
        go_ret
        exact ⟨by rw [Hres.out]; rfl, rfl⟩
    · obtain rfl : n = i := by omega
      have Hres : Hid (leftN (Ex.totals l) left = m) := by
        show _ = _
        have h3 := Hm.out
        rw [List.take_of_length_le (by rw [← Hn.out]; exact Nat.le_refl _)] at h3
        exact h3.symm
      go_wp2_with fail
      go_ret
      exact ⟨by rw [Hres.out]; rfl, rfl⟩
end Go.Proofs.Ytneibcpgengdnaa
