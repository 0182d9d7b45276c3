/- What is wrong with a program's thresholds and counts. -/
import Derived.Test.YtneibcpgengdnaaTrRChk
namespace Go.Proofs.Ytneibcpgengdnaa
open Go.RowKit

theorem IntsIn.row {w : World} {v : Value} {l : List Int} (h : IntsIn w v l) : RowOf w v l.length 1 (fun b o i => ∀ x, l[i]? = some x → w.cell? ⟨b, o, none⟩ = some (.int .i64 x)) := by
  obtain ⟨_, a, cap, rfl, h2, h3, h4, h5⟩ := h
  exact ⟨a, cap, rfl, h2, h3, h4, fun h0 => by
    obtain ⟨b, off, e, hb, hc⟩ := h5 h0
    exact ⟨b, off, e, hb, fun i _ x hx => by rw [Nat.mul_one]; exact hc i _ (by simp [intVs, hx])⟩⟩
def leastB (l : List Int) : Bool := l.any fun y => y == leastI
theorem leastB_take {l : List Int} {i : Nat} {y : Int} (h : l[i]? = some y) : leastB (l.take (i + 1)) = (leastB (l.take i) || (y == leastI)) := by rw [take_next h]; simp [leastB]
theorem leastB_hit {l : List Int} {i : Nat} {y : Int} (h : l[i]? = some y) (hy : (y == leastI) = true) : leastB l = true := by
  unfold leastB
  rw [List.any_eq_true]
  exact ⟨y, List.mem_of_getElem? h, hy⟩
def riseB : List Int → Bool
  | a :: b :: l => decide (a < b) && riseB (b :: l)
  | _ => true
theorem riseB_all {l : List Int} (h : ∀ (i : Nat) a b, l[i]? = some a → l[i + 1]? = some b → a < b) : riseB l = true := by
  induction l with
  | nil => rfl
  | cons a l ih =>
    cases l with
    | nil => rfl
    | cons b l =>
      simp only [riseB, Bool.and_eq_true, decide_eq_true_eq]
      exact ⟨h 0 a b rfl rfl, ih fun i x y hx hy => h (i + 1) x y (by simpa using hx) (by simpa using hy)⟩
theorem riseB_no {l : List Int} {i : Nat} {a b : Int} (ha : l[i]? = some a) (hb : l[i + 1]? = some b) (hn : ¬ a < b) : riseB l = false := by
  induction l generalizing i with
  | nil => simp at ha
  | cons x l ih =>
    cases l with
    | nil => simp at hb
    | cons y l =>
      cases i with
      | zero =>
        simp at ha hb
        subst ha; subst hb
        simp [riseB, hn]
      | succ i =>
        have := ih (i := i) (by simpa using ha) (by simpa using hb)
        simp [riseB, this]
/-- What is wrong ahead of the functions. -/
def Pg.headErr (p : Pg) : Int := if 16 < p.widen.length then 3 else if leastB p.widen = true then 1 else if riseB p.widen = false then 66 else if 32 < p.funcs.length ∨ 4096 < upto (Fn.count p.funcs) then 3 else 0
set_option maxHeartbeats 1000000 in
theorem indexI_any (l : List Int) (v : Value) (W : World) (h : IntsIn W v l) :
    Calls Try.prog 50 #[v, .int .i64 (-9223372036854775808)] W (fun e W' => ∃ r : Int, e = .returned (.int .i64 r) ∧ decide (0 ≤ r) = leastB l ∧ W = W') := by
  have h := h.row
  obtain ⟨a, cap, rfl, hncap, hcap⟩ := h.form
  obtain ⟨n, hn⟩ : ∃ n, n = l.length := ⟨_, rfl⟩
  have Hn := Lib.hid hn
  have Hrow : Hid (RowOf W (.slice a n cap) l.length 1 (fun b o i => ∀ x, l[i]? = some x → W.cell? ⟨b, o, none⟩ = some (.int .i64 x))) := by rw [hn]; exact h
  rw [← hn]
  rw [← hn] at hncap
  have hn62 : n ≤ 9223372036854775807 := by have : maxLen ≤ 9223372036854775807 := by decide
                                            omega
  clear h hn
  go_enter Try.func50, Try.ntmps50
  go_wp2_with fail
  go_loopg [5, 8] n (fun g _ iv wx => ∃ i : Nat, g = n - i ∧ iv = .int .i64 (i : Int) ∧ i ≤ n ∧ leastB (l.take i) = false ∧ wx = W)
  case atStart => exact ⟨0, rfl, rfl, Nat.zero_le _, rfl, rfl⟩
  case round =>
    obtain ⟨i, hg, rfl, hi, hp, rfl⟩ := hrel
    have HK := Lib.hid hp
    have Hg := Lib.hid hg
    clear hp hg
    by_cases hin : i < n
    · obtain ⟨y, hy⟩ : ∃ y, l[i]? = some y := ⟨_, List.getElem?_eq_getElem (by rw [← Hn.out]; exact hin)⟩
      obtain ⟨b, off, rfl, hb, hP⟩ := Hrow.out.at (i := i) (by rw [← Hn.out]; exact hin)
      have hcs := hP y hy
      have Hy := Lib.hid hy
      simp only [Nat.mul_one] at hcs
      clear hy hP
      by_cases hz : y = -9223372036854775808
      · have Hz : Hid ((y == leastI) = true) := by show _ = _; simp [leastI, hz]
        subst hz
        go_wp2_with fail
        go_ret
        exact ⟨i, rfl, by rw [leastB_hit Hy.out Hz.out]; simp, rfl⟩
      · have Hz : Hid ((y == leastI) = false) := by show _ = _; simp [leastI, hz]
        have hq : (-9223372036854775808 == y) = false := by simp; omega
        have hq2 : (y == -9223372036854775808) = false := by simp [hz]
        go_wp2_with fail
        go_roundg (n - (i + 1))
        case measure => have := Hg.out; omega
        case rel => exact ⟨i + 1, rfl, by go_num, hin, by rw [leastB_take Hy.out, HK.out, Hz.out]; rfl, rfl⟩
    · obtain rfl : n = i := by omega
      have Hres : Hid (leastB l = false) := by
        show _ = _
        have h := HK.out
        rw [List.take_of_length_le (by rw [← Hn.out]; exact Nat.le_refl _)] at h
        exact h
      clear hin
      go_wp2_with fail
      go_ret
      exact ⟨-1, rfl, by rw [Hres.out]; rfl, rfl⟩
theorem containsI_any (l : List Int) (v : Value) (W : World) (h : IntsIn W v l) :
    Calls Try.prog 31 #[v, .int .i64 (-9223372036854775808)] W (fun e W' => e = .returned (.bool (leastB l)) ∧ W = W') := by
  have H := Lib.hid h
  obtain ⟨-, a, cap, rfl, -⟩ := h
  go_enter Try.func31, Try.ntmps31
  go_wp2_with fail
  refine (indexI_any l _ W H.out).mono ?_
  rintro e w2 ⟨r, rfl, hr, hb⟩
  rw [← hb]
  have Hr := Lib.hid hr
  clear hr hb
  by_cases h0 : 0 ≤ r
  · have hq : Hid (leastB l = true) := by show _ = _; rw [← Hr.out]; exact decide_eq_true h0
    go_wp2_with fail
    go_ret
    exact ⟨by rw [hq.out]; simp, rfl⟩
  · have hq : Hid (leastB l = false) := by show _ = _; rw [← Hr.out]; exact decide_eq_false h0
    go_wp2_with fail
    go_ret
    exact ⟨by rw [hq.out]; simp [h0], rfl⟩
end Go.Proofs.Ytneibcpgengdnaa
