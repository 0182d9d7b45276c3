/- mean: the sum of numbers in a row, as a program. -/
import Derived.Test.YtgcplcffejbniaaMnRun
import Derived.Test.YtgcplcffejbniaaNmAwake
import Derived.Test.YtgcplcffejbniaaNmCut
namespace Go.Proofs.Ytgcplcffejbniaa
open Go.RowKit Go.Maps

def mA : ByteArray := ⟨#[97]⟩
def mB : ByteArray := ⟨#[98]⟩
def mS : ByteArray := ⟨#[115]⟩
def mI : ByteArray := ⟨#[105]⟩
def mF : ByteArray := ⟨#[102]⟩
def mZ : Ex := .mk 0 0 ⟨#[]⟩ []
def exNum0 : Ex := .mk 1 0 ⟨#[]⟩ []
def exNm (s : ByteArray) : Ex := .mk 2 0 s []
def stAs : St := .mk 3 mS 0 (.mk 7 0 ⟨#[]⟩ [exNm mS, exNm mI]) mZ [] [] []
def stL : St := .mk 1 mS 0 exNum0 mZ [] [] []
def stFor : St := .mk 7 mI 0 (exNm mA) (exNm mB) [stAs] [] []
def stRet : St := .mk 9 ⟨#[]⟩ 0 (exNm mS) mZ [] [] []
def sumB : List St := [stL, stFor, stRet]
def fSum (lo hi : Int) : Fn := ⟨mF, [⟨mA, lo, hi⟩, ⟨mB, lo, hi⟩], sumB⟩
def pSum (lo hi : Int) : Pg := ⟨[], [fSum lo hi]⟩
/-! ### the plain law -/
theorem w64_w64 (a b : Int) : w64 (w64 a + b) = w64 (a + b) := by unfold w64 wrap64; omega
theorem w64_id {a : Int} (h : in64 a) : w64 a = a := by unfold w64 wrap64; unfold in64 at h; omega
def sumI : Int → Int → Nat → Int
  | s, _, 0 => s
  | s, i, t + 1 => sumI (w64 (s + i)) (i + 1) t
/-- Twice the sum of t numbers from i on. -/
theorem sumI_eq (t : Nat) : ∀ (s i h : Int), in64 s → 2 * h = (t : Int) * ((t : Int) - 1) → sumI s i t = w64 (s + (t : Int) * i + h) := by
  induction t with
  | zero =>
    intro s i h hs hh
    have : h = 0 := by simp at hh; omega
    subst this
    simp only [sumI]
    rw [show s + ((0 : Nat) : Int) * i + 0 = s by simp, w64_id hs]
  | succ t ih =>
    intro s i h hs hh
    simp only [sumI]
    have e1 : ((t + 1 : Nat) : Int) * (((t + 1 : Nat) : Int) - 1) = (t : Int) * ((t : Int) - 1) + 2 * (t : Int) := by
      push_cast
      rw [show (t : Int) + 1 - 1 = (t : Int) by omega, Int.add_mul, Int.mul_sub]
      omega
    rw [e1] at hh
    rw [ih (w64 (s + i)) (i + 1) (h - t) (w64_in _) (by omega)]
    rw [Int.add_assoc, w64_w64]
    congr 1
    push_cast
    rw [Int.mul_add, Int.add_mul]
    omega
theorem as_run (most : Int) (m : MS) : runsS most [stAs] m = (0, { m with V := upd m.V mS (w64 (m.V mS + m.V mI)) }) := by rfl
theorem sum_loop (most : Int) : ∀ (t : Nat) (i : Int) (m : MS), m.e = 0 → m.r ≤ most →
    (m.r + (t : Int) ≤ most → ∃ V', loopS (runsS most [stAs]) mI most i t m = (0, ⟨V', m.v, m.r + (t : Int), 0⟩) ∧ V' mS = sumI (m.V mS) i t) ∧
    (most < m.r + (t : Int) → ∃ V', loopS (runsS most [stAs]) mI most i t m = (2, ⟨V', m.v, most, 53⟩))
  | 0, i, m, he, hr => by
    refine ⟨fun _ => ⟨m.V, ?_, rfl⟩, fun h => absurd h (by simp; omega)⟩
    unfold loopS
    rw [← he]
    simp
  | t + 1, i, m, he, hr => by
    have hun : loopS (runsS most [stAs]) mI most i (t + 1) m = if most ≤ m.r then (2, { m with e := 53 }) else loopS (runsS most [stAs]) mI most (i + 1) t { m with V := upd (upd m.V mI i) mS (w64 (upd m.V mI i mS + upd m.V mI i mI)), r := m.r + 1 } := by
      simp only [loopS, as_run]
      rfl
    have hs : upd m.V mI i mS = m.V mS := by unfold upd; rw [if_neg (by decide)]
    have hi : upd m.V mI i mI = i := by unfold upd; rw [if_pos rfl]
    rw [hun, hs, hi]
    by_cases hm : most ≤ m.r
    · rw [if_pos hm]
      refine ⟨fun h => absurd h (by push_cast; omega), fun _ => ⟨m.V, ?_⟩⟩
      rw [show m.r = most by omega]
    · rw [if_neg hm]
      obtain ⟨h1, h2⟩ := sum_loop most t (i + 1) { m with V := upd (upd m.V mI i) mS (w64 (m.V mS + i)), r := m.r + 1 } he (show m.r + 1 ≤ most by omega)
      have hv : upd (upd m.V mI i) mS (w64 (m.V mS + i)) mS = w64 (m.V mS + i) := by unfold upd; rw [if_pos rfl]
      refine ⟨fun h => ?_, fun h => ?_⟩
      · obtain ⟨V', e1, e2⟩ := h1 (by show m.r + 1 + (t : Int) ≤ most; push_cast at h; omega)
        refine ⟨V', e1.trans ?_, e2.trans ?_⟩
        · show (0, MS.mk V' m.v (m.r + 1 + (t : Int)) 0) = _
          rw [show m.r + 1 + (t : Int) = m.r + ((t + 1 : Nat) : Int) by push_cast; omega]
        · show sumI (upd (upd m.V mI i) mS (w64 (m.V mS + i)) mS) (i + 1) t = _
          rw [hv]; rfl
      · exact h2 (by show most < m.r + 1 + (t : Int); push_cast at h; omega)
theorem fits_two (lo hi x y : Int) : fitsB (fSum lo hi).params [x, y] = (decide (lo ≤ x ∧ x ≤ hi) && decide (lo ≤ y ∧ y ≤ hi)) := by
  unfold fitsB fSum
  simp
/-- What Run answers of the sum. -/
theorem sum_mean (lo hi x y most : Int) (h1 : 1 ≤ most) : meanT (fSum lo hi) [x, y] most =
    if (decide (lo ≤ x ∧ x ≤ hi) && decide (lo ≤ y ∧ y ≤ hi)) = true then (if 1 + ((y - x).toNat : Int) ≤ most then (0, sumI 0 x ((y - x).toNat), 1 + ((y - x).toNat : Int)) else (53, 0, most)) else (2, 0, 0) := by
  unfold meanT
  rw [fits_two]
  split
  · rename_i hf
    obtain ⟨V0, hV0⟩ : ∃ V, V = parV (fSum lo hi).params [x, y] (fSum lo hi).params.length := ⟨_, rfl⟩
    have va : V0 mA = x := by rw [hV0]; rfl
    have vb : V0 mB = y := by rw [hV0]; rfl
    rw [← hV0]
    have e : runsS most (fSum lo hi).body ⟨V0, 0, 1, 0⟩ = (if (loopS (runsS most [stAs]) mI most x ((y - x).toNat) ⟨upd V0 mS 0, 0, 1, 0⟩).1 = 0 then (2, { (loopS (runsS most [stAs]) mI most x ((y - x).toNat) ⟨upd V0 mS 0, 0, 1, 0⟩).2 with v := (loopS (runsS most [stAs]) mI most x ((y - x).toNat) ⟨upd V0 mS 0, 0, 1, 0⟩).2.V mS }) else loopS (runsS most [stAs]) mI most x ((y - x).toNat) ⟨upd V0 mS 0, 0, 1, 0⟩) := by
      have e1 : runS most stL ⟨V0, 0, 1, 0⟩ = (0, ⟨upd V0 mS 0, 0, 1, 0⟩) := rfl
      have ha : evS (upd V0 mS 0) (exNm mA) = x := by show upd V0 mS 0 mA = x; unfold upd; rw [if_neg (by decide)]; exact va
      have hb : evS (upd V0 mS 0) (exNm mB) = y := by show upd V0 mS 0 mB = y; unfold upd; rw [if_neg (by decide)]; exact vb
      have e2 : runS most stFor ⟨upd V0 mS 0, 0, 1, 0⟩ = loopS (runsS most [stAs]) mI most x ((y - x).toNat) ⟨upd V0 mS 0, 0, 1, 0⟩ := by
        rw [runS_eq, if_pos (show stFor.kind = 7 from rfl)]
        show loopS (runsS most [stAs]) mI most (evS (upd V0 mS 0) (exNm mA)) ((evS (upd V0 mS 0) (exNm mB) - evS (upd V0 mS 0) (exNm mA)).toNat) _ = _
        rw [ha, hb]
      have e3 : ∀ m : MS, runS most stRet m = (2, { m with v := m.V mS }) := fun m => rfl
      show runsS most [stL, stFor, stRet] _ = _
      simp only [runsS, e1, e2, e3, if_true]
      rfl
    rw [e]
    obtain ⟨h2, h3⟩ := sum_loop most ((y - x).toNat) x ⟨upd V0 mS 0, 0, 1, 0⟩ rfl h1
    by_cases hm : 1 + ((y - x).toNat : Int) ≤ most
    · obtain ⟨V', e1, e2⟩ := h2 hm
      rw [if_pos hm, e1]
      simp only [if_true]
      rw [e2]
      have : upd V0 mS 0 mS = 0 := by unfold upd; rw [if_pos rfl]
      show (0, if (0 : Int) ≠ 0 then 0 else sumI (upd V0 mS 0 mS) x ((y - x).toNat), _) = _
      rw [this, if_neg (by decide)]
    · obtain ⟨V', e1⟩ := h3 (by show most < 1 + ((y - x).toNat : Int); omega)
      rw [if_neg hm, e1]
      rfl
  · rfl
/-! ### the program is right -/
theorem sum_rfault {lo hi : Int} (h1 : lo ≤ hi) (h2 : lo ≠ leastI) (h3 : hi ≠ leastI) : (pSum lo hi).rfault = (0, 0, 0) := by
  have p1 : Pm.err ⟨mA, lo, hi⟩ = 0 := by
    unfold Pm.err
    rw [if_neg (show ¬ nameB mA = false by decide +kernel), if_neg (by rintro (h | h); exact h2 h; exact h3 h)]
  have p2 : Pm.err ⟨mB, lo, hi⟩ = 0 := by
    unfold Pm.err
    rw [if_neg (show ¬ nameB mB = false by decide +kernel), if_neg (by rintro (h | h); exact h2 h; exact h3 h)]
  have hface : (fSum lo hi).face = 0 := by
    unfold Fn.face
    rw [if_neg (show ¬ nameB (fSum lo hi).name = false by show ¬ nameB mF = false; decide +kernel), if_neg (show ¬ 8 < (fSum lo hi).params.length by show ¬ 8 < 2; decide)]
    show Pm.errs [⟨mA, lo, hi⟩, ⟨mB, lo, hi⟩] = 0
    simp only [Pm.errs]
    rw [p1, p2]; rfl
  have hchk : (St.chks sumB 1).2 = 0 := by kernel_rfl
  have hfault : (pSum lo hi).fault = (0, 0, 0) := by
    unfold Pg.fault
    rw [if_neg (show ¬ (pSum lo hi).headErr ≠ 0 from fun h => h (by
      unfold Pg.headErr
      rw [if_neg (by show ¬ 16 < 0; decide), if_neg (by show ¬ leastB [] = true; decide), if_neg (by show ¬ riseB [] = false; decide)]
      exact if_neg (by
        rintro (h | h)
        · exact absurd h (by show ¬ 32 < 1; decide)
        · exact absurd h (by
            show ¬ 4096 < upto (St.totals sumB + 0)
            decide +kernel))))]
    refine Fn.faults_none fun j y hy => ?_
    have : y = fSum lo hi := by
      match j with
      | 0 => simp [pSum] at hy; exact hy.symm
      | j + 1 => simp [pSum] at hy
    subst this
    unfold Fn.fault
    rw [if_neg (fun h => h hface), if_neg (fun h => h hchk)]
  have hn : (St.nchks (parK (fSum lo hi).params) [] 0 sumB).2 = 0 := by
    show (St.nchks [(mA, 1), (mB, 1)] [] 0 sumB).2 = 0
    kernel_rfl
  have hnf : (fSum lo hi).nfault [] 0 = (0, 0, 0) := by
    unfold Fn.nfault
    rw [if_neg (by
      rintro (h | h)
      · cases h
      · exact absurd h (by show ¬ twiceB [⟨mA, lo, hi⟩, ⟨mB, lo, hi⟩] [] = true; intro h; simp [twiceB] at h; exact absurd h (by decide)))]
    exact if_neg fun h => h hn
  have hnfault : (pSum lo hi).nfault = (0, 0, 0) := by
    rw [Pg.nfault_ok (by rw [hfault])]
    show Fn.nfaults [fSum lo hi] [] 0 = _
    simp only [Fn.nfaults]
    rw [hnf]; rfl
  have hr : (St.rchks [mA, mB] (arOf []) sumB).2 = 0 := by kernel_rfl
  have hrf : (fSum lo hi).rfault [] 0 = (0, 0, 0) := by
    unfold Fn.rfault
    rw [if_neg (by
      show ¬ emptyB [⟨mA, lo, hi⟩, ⟨mB, lo, hi⟩] = true
      unfold emptyB
      simp
      omega)]
    exact if_neg fun h => h hr
  unfold Pg.rfault
  rw [if_neg (by rw [hnfault]; decide)]
  show Fn.rfaults [] [fSum lo hi] 0 = _
  simp only [Fn.rfaults]
  rw [hrf]; rfl
theorem num_rng {k n : Int} {s : ByteArray} (h : in64 n) : (Ex.mk k n s []).rng := (Ex.rng_eq _).2 ⟨h, trivial⟩
theorem z64 : in64 0 := by unfold in64; omega
theorem sum_rng {lo hi : Int} (h1 : in64 lo) (h2 : in64 hi) : (pSum lo hi).rng := fun f hf => by
  obtain rfl : f = fSum lo hi := by simpa [pSum] using hf
  have ha : stAs.rng := (St.rng_eq _).2 ⟨z64, (Ex.rng_eq _).2 ⟨z64, num_rng z64, num_rng z64, trivial⟩, num_rng z64, trivial, trivial, trivial⟩
  refine ⟨⟨(St.rng_eq _).2 ⟨z64, num_rng z64, num_rng z64, trivial, trivial, trivial⟩, (St.rng_eq _).2 ⟨z64, num_rng z64, num_rng z64, ⟨ha, trivial⟩, trivial, trivial⟩, (St.rng_eq _).2 ⟨z64, num_rng z64, num_rng z64, trivial, trivial, trivial⟩, trivial⟩, fun x hx => ?_⟩
  have : x = ⟨mA, lo, hi⟩ ∨ x = ⟨mB, lo, hi⟩ := by simpa [fSum] using hx
  rcases this with rfl | rfl <;> exact ⟨h1, h2⟩
def sumN : List ByteArray := [mA, mB, mS, mI]
theorem nm_simp (s : ByteArray) (h : s.size ≤ 16) : (exNm s).simp := (Ex.simp_eq _).2 ⟨z64, h, .inr (.inl rfl)⟩
theorem sum_simp : St.simps sumN sumB := by
  have hS : mS.size ≤ 16 := by decide
  have hI : mI.size ≤ 16 := by decide
  have ha : stAs.simp sumN := (St.simp_eq _ _).2 ⟨(Ex.simp_eq _).2 ⟨z64, by decide, .inr (.inr ⟨rfl, rfl, nm_simp _ hS, nm_simp _ hI, trivial⟩)⟩, .inr ⟨⟨by decide, hS⟩, .inr (.inl rfl)⟩⟩
  refine ⟨(St.simp_eq _ _).2 ⟨(Ex.simp_eq _).2 ⟨z64, by decide, .inl rfl⟩, .inr ⟨⟨by decide, hS⟩, .inl rfl⟩⟩, (St.simp_eq _ _).2 ⟨nm_simp _ (by decide), .inr ⟨⟨by decide, hI⟩, .inr (.inr ⟨rfl, nm_simp _ (by decide), ha, trivial⟩)⟩⟩, (St.simp_eq _ _).2 ⟨nm_simp _ hS, .inl rfl⟩, trivial⟩
end Go.Proofs.Ytgcplcffejbniaa
