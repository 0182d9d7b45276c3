/- R2.face: what is wrong first with a function's head. -/
import Derived.Test.YtgobcldecokppaaDoorTrLow
/- What is wrong first with a function's head. -/
namespace Go.Proofs.YtgobcldecokppaaDoor
open Go.RowKit

def Pm.err (x : Pm) : Int := if nameB x.name = false then 8 else if x.lo = leastI ∨ x.hi = leastI then 1 else 0
def Pm.errs : List Pm → Int
  | [] => 0
  | x :: l => if x.err ≠ 0 then x.err else Pm.errs l
def Fn.face (f : Fn) : Int := if nameB f.name = false then 8 else if 8 < f.params.length then 3 else Pm.errs f.params
theorem Pm.errs_stop {l : List Pm} {i : Nat} {x : Pm} (h : l[i]? = some x) (hn : ∀ j y, j < i → l[j]? = some y → y.err = 0) (he : x.err ≠ 0) : Pm.errs l = x.err := by
  induction l generalizing i with
  | nil => simp at h
  | cons y l ih =>
    cases i with
    | zero => simp at h; subst h; simp [Pm.errs, he]
    | succ i =>
      have h0 := hn 0 y (by omega) rfl
      simp only [Pm.errs, h0]
      simpa using ih (by simpa using h) (fun j z hj hz => hn (j + 1) z (by omega) (by simpa using hz))
theorem Pm.errs_none {l : List Pm} (hn : ∀ (j : Nat) y, l[j]? = some y → y.err = 0) : Pm.errs l = 0 := by
  induction l with
  | nil => simp [Pm.errs]
  | cons y l ih =>
    have h0 := hn 0 y rfl
    simp only [Pm.errs, h0]
    simpa using ih (fun j z hz => hn (j + 1) z (by simpa using hz))
def fnVal (f : Fn) (vp vb : Value) : Value := .agg #[.string f.name, vp, vb]
set_option maxHeartbeats 1000000 in
theorem head_any (f : Fn) (vp : Value) (ab : Option Addr) (nb cb : Nat) (W : World) (h : RowOf W vp f.params.length 3 (fun b o k => ∀ y, f.params[k]? = some y → PmAt W b o y)) :
    Calls Tryd.prog 47 #[fnVal f vp (.slice ab nb cb)] W (Gives (.int .i64 f.face) W) := by
  obtain ⟨a, cap, rfl, hncap, hcap⟩ := h.form
  obtain ⟨n, hn⟩ : ∃ n, n = f.params.length := ⟨_, rfl⟩
  have Hn := Lib.hid hn
  have Hrow : Hid (RowOf W (.slice a n cap) f.params.length 3 (fun b o k => ∀ y, f.params[k]? = some y → PmAt W b o y)) := by rw [hn]; exact h
  rw [← hn]
  obtain ⟨W1, hW1⟩ : ∃ W1, W1 = W.alloc (.cells #[.string f.name, .slice a n cap, .slice ab nb cb] 40) := ⟨_, rfl⟩
  have hb1 : Below W.heap.size W W1 := by rw [hW1]; exact (Below.refl _ _).alloc (Nat.le_refl _) _
  have hc1 : W1.cell? ⟨W.heap.size, 1, none⟩ = some (.slice a n cap) := by rw [hW1]; exact World.cell?_alloc_at _ _ _ _ rfl
  have hs1 : W.heap.size < W1.heap.size := by rw [hW1]; simp
  have HW1 := Lib.hid hW1
  have Hb1 := Lib.hid hb1
  obtain ⟨z, hz⟩ : ∃ z, z = nameB f.name := ⟨_, rfl⟩
  have Hz := Lib.hid hz
  unfold fnVal
  clear h hn hW1 hb1 hz
  go_enter Tryd.func47, Tryd.ntmps47
  go_wp2_with fail
  rw [← HW1.out]
  refine (name_any f.name W1).mono ?_
  rintro e w1 ⟨rfl, hw⟩
  rw [← hw, ← Hz.out]
  clear hw
  cases z
  · have Hres : Hid (f.face = 8) := by show _ = _; simp [Fn.face, ← Hz.out]
    go_wp2_with fail
    go_ret
    exact ⟨by rw [Hres.out]; rfl, Hb1.out⟩
  · by_cases h8 : 8 < n
    · have Hres : Hid (f.face = 3) := by show _ = _; simp [Fn.face, ← Hz.out, ← Hn.out, h8]
      go_wp2_with fail
      go_ret
      exact ⟨by rw [Hres.out]; rfl, Hb1.out⟩
    · have Hface : Hid (f.face = Pm.errs f.params) := by show _ = _; simp [Fn.face, ← Hz.out, ← Hn.out, h8]
      go_wp2_with fail
      clear hc1 hs1
      go_loopg [16] n (fun g iv wx => ∃ i : Nat, g = n - i ∧ iv = .int .i64 (i : Int) ∧ i ≤ n ∧ (∀ j y, j < i → f.params[j]? = some y → y.err = 0) ∧ Below W.heap.size W wx)
      case atStart => exact ⟨0, rfl, rfl, Nat.zero_le _, fun j y h => by omega, Hb1.out⟩
      case round =>
        obtain ⟨i, hg, rfl, hi, hp, hO⟩ := hrel
        have HK := Lib.hid (And.intro hp hO)
        have Hg := Lib.hid hg
        clear hp hg
        by_cases hin : i < n
        · obtain ⟨y, hy⟩ : ∃ y, f.params[i]? = some y := ⟨_, List.getElem?_eq_getElem (by rw [← Hn.out]; exact hin)⟩
          obtain ⟨b, off, rfl, hb, hP⟩ := Hrow.out.at (i := i) (by rw [← Hn.out]; exact hin)
          obtain ⟨c0, c1, c2⟩ := (hP y hy).later hO hb
          have Hy := Lib.hid hy
          obtain ⟨W4, hW4⟩ : ∃ W4, W4 = wr.alloc (.cells #[.string y.name, .int .i64 y.lo, .int .i64 y.hi] 49) := ⟨_, rfl⟩
          have hb4 : Below wr.heap.size wr W4 := by rw [hW4]; exact (Below.refl _ _).alloc (Nat.le_refl _) _
          have hp4 : PmAt W4 wr.heap.size 0 y := by rw [hW4]; constructor <;> exact World.cell?_alloc_at _ _ _ _ rfl
          have HW4 := Lib.hid hW4
          have H4 := Lib.hid (And.intro (HK.out.2.trans (hb4.mono HK.out.2.size)) hp4)
          obtain ⟨z, hz⟩ : ∃ z, z = nameB y.name := ⟨_, rfl⟩
          have Hzy := Lib.hid hz
          clear hy hP hO hW4 hb4 hp4 hz
          go_wp2_with fail
          rw [← HW4.out]
          refine (name_any y.name W4).mono ?_
          rintro e w1 ⟨rfl, hw⟩
          rw [← hw, ← Hzy.out]
          clear hw c0 c1 c2
          obtain ⟨d0, d1, d2⟩ := H4.out.2
          simp only [Nat.zero_add] at d0 d1 d2
          cases z
          · have he : Hid (y.err = 8) := by show _ = _; simp [Pm.err, ← Hzy.out]
            have Hres : Hid (f.face = 8) := by
              show _ = _
              rw [Hface.out, Pm.errs_stop Hy.out HK.out.1 (by rw [he.out]; decide), he.out]
            go_wp2_with fail
            go_ret
            exact ⟨by rw [Hres.out]; rfl, H4.out.1⟩
          · by_cases hl : y.lo = leastI ∨ y.hi = leastI
            · have he : Hid (y.err = 1) := by show _ = _; simp [Pm.err, ← Hzy.out, hl]
              have Hres : Hid (f.face = 1) := by
                show _ = _
                rw [Hface.out, Pm.errs_stop Hy.out HK.out.1 (by rw [he.out]; decide), he.out]
              unfold leastI at hl
              rcases (by omega : y.lo = -9223372036854775808 ∨ (y.lo ≠ -9223372036854775808 ∧ y.hi = -9223372036854775808)) with h1 | ⟨h1, h2⟩
              all_goals
                clear hl
                go_wp2_with fail
                go_ret
                exact ⟨by rw [Hres.out]; rfl, H4.out.1⟩
            · have he : Hid (y.err = 0) := by show _ = _; simp [Pm.err, ← Hzy.out, hl]
              unfold leastI at hl
              have h1 : (y.lo == -9223372036854775808) = false := by simp; omega
              have h2 : (y.hi == -9223372036854775808) = false := by simp; omega
              clear hl
              go_wp2_with fail
              go_roundg (n - (i + 1))
              case measure => have := Hg.out; omega
              case rel => exact ⟨i + 1, rfl, by go_num, hin, fun j x hj hx => by
                by_cases e : j = i
                · subst e
                  rw [Hy.out] at hx
                  cases hx; exact he.out
                · exact HK.out.1 j x (by omega) hx, H4.out.1⟩
        · obtain rfl : n = i := by omega
          have Hres : Hid (f.face = 0) := by
            show _ = _
            rw [Hface.out]
            exact Pm.errs_none fun j y hy => HK.out.1 j y (by rw [Hn.out]; exact (List.getElem?_eq_some_iff.1 hy).1) hy
          clear hO hin
          go_wp2_with fail
          go_ret
          exact ⟨by rw [Hres.out]; rfl, HK.out.2⟩
end Go.Proofs.YtgobcldecokppaaDoor

namespace Go.Proofs.YtgobcldecokppaaDoor
open Go.RowKit

end Go.Proofs.YtgobcldecokppaaDoor
