/- Where blocks begin, told in two ways: the plain law. -/
import Derived.Test.YtapjdndcnenadaaDoorBlocks0
namespace Go.Proofs.YtapjdndcnenadaaDoor
open Go.RowKit

def fromAt (l : List Int) (es : List Edge) : List Int := es.foldl (fun l e => l.set e.2.toNat e.1) l
theorem fromAt_snoc (l : List Int) (es : List Edge) (e : Edge) : fromAt l (es ++ [e]) = (fromAt l es).set e.2.toNat e.1 := by simp [fromAt]
theorem fromAt_length (l : List Int) (es : List Edge) : (fromAt l es).length = l.length := by
  induction es using snoc_ind with
  | h0 => rfl
  | hs es e ih => rw [fromAt_snoc, List.length_set, ih]

def rwithin (code : List Ins) (many frm : List Int) (k : Nat) : Bool := decide (0 < k) && (decide (many.getD k 0 = 1) && (decide (frm.getD k 0 = (k : Int) - 1) && decide ((nextL code ((k : Int) - 1)).length = 1)))
def rblocksTo (code : List Ins) (many frm : List Int) (can : List Bool) : Nat → List Int
  | 0 => []
  | k + 1 => rblocksTo code many frm can k ++ if (can.getD k false && !rwithin code many frm k) = true then [(k : Int)] else []
theorem rblocksTo_le (code : List Ins) (many frm : List Int) (can : List Bool) (k : Nat) : (rblocksTo code many frm can k).length ≤ k := by
  induction k with
  | zero => exact Nat.le_refl _
  | succ k ih => unfold rblocksTo; split <;> simp <;> omega

theorem quiet_from (code : List Ins) (n : Nat) (es : List Edge) (hr : ∀ e ∈ es, 0 ≤ e.2 ∧ e.2 < n) (k : Nat) (hk : k < n) :
    ((intoAt (List.replicate n 0) es).getD k 0 = 0 → (quietAt code (List.replicate n false) es).getD k false = false) ∧
    ((intoAt (List.replicate n 0) es).getD k 0 = 1 → (quietAt code (List.replicate n false) es).getD k false = (decide ((fromAt (List.replicate n 0) es).getD k 0 = (k : Int) - 1) && decide ((nextL code ((k : Int) - 1)).length = 1))) := by
  induction es using snoc_ind with
  | h0 =>
    have h1 : (intoAt (List.replicate n 0) []).getD k 0 = 0 := by simp [intoAt, List.getD, hk]
    have h2 : (quietAt code (List.replicate n false) []).getD k false = false := by simp [quietAt, List.getD, hk]
    exact ⟨fun _ => h2, fun h => by rw [h1] at h; omega⟩
  | hs es e ih =>
    have ih := ih (fun e he => hr e (List.mem_append_left _ he))
    have he := hr e (by simp)
    have hb := intoAt_bound n es k
    rw [intoAt_snoc, quietAt_snoc, fromAt_snoc, getD_set_any, getD_set_any, getD_set_any, intoAt_length, quietAt_length, fromAt_length, List.length_replicate, List.length_replicate]
    by_cases hke : k = e.2.toNat
    · subst hke
      rw [if_pos ⟨rfl, hk⟩, if_pos ⟨rfl, hk⟩, if_pos ⟨rfl, hk⟩]
      refine ⟨fun h => by omega, fun h => ?_⟩
      have h0 : (intoAt (List.replicate n 0) es).getD e.2.toNat 0 = 0 := by omega
      rw [ih.1 h0, Bool.false_or, quietOne]
      have e2 : ((e.2.toNat : Nat) : Int) = e.2 := by omega
      rw [e2]
      by_cases h1 : e.1 = e.2 - 1
      · rw [h1]
      · simp [h1]
    · rw [if_neg (fun h => hke h.1), if_neg (fun h => hke h.1), if_neg (fun h => hke h.1)]
      exact ih

theorem rblocksTo_eq (code : List Ins) (can : List Bool) (n : Nat) (es : List Edge) (hr : ∀ e ∈ es, 0 ≤ e.2 ∧ e.2 < n) (k : Nat) (hk : k ≤ n) :
    rblocksTo code (intoAt (List.replicate n 0) es) (fromAt (List.replicate n 0) es) can k = blocksTo (intoAt (List.replicate n 0) es) (quietAt code (List.replicate n false) es) can k := by
  induction k with
  | zero => rfl
  | succ k ih =>
    rw [rblocksTo, blocksTo, ih (by omega)]
    have hq := (quiet_from code n es hr k (by omega)).2
    have e : (can.getD k false && !rwithin code (intoAt (List.replicate n 0) es) (fromAt (List.replicate n 0) es) k) = blockAt (intoAt (List.replicate n 0) es) (quietAt code (List.replicate n false) es) can k := by
      unfold rwithin blockAt
      congr 1
      by_cases h0 : k = 0
      · subst h0; simp
      · have h1 : 0 < k := by omega
        have h2 : ((k : Int) == 0) = false := by simpa using h0
        rw [h2, decide_eq_true h1, Bool.true_and, Bool.false_or]
        by_cases hm : (intoAt (List.replicate n 0) es).getD k 0 = 1
        · rw [hq hm, hm]; simp
        · have hm2 : ((intoAt (List.replicate n 0) es).getD k 0 != 1) = true := by rw [bne_iff_ne]; exact hm
          rw [decide_eq_false hm, hm2]; rfl
    rw [e]

theorem edgesL_can {code : List Ins} {e : Edge} (h : e ∈ edgesL code) : (reachL code (-1)).length = code.length := by
  rw [reachL_length, if_pos (edgesL_mem h).2.2.2.2.2.1]

theorem rblocks_eq (code : List Ins) (can : List Bool) (hcan : can = reachL code (-1)) :
    rblocksTo code (intoAt (List.replicate can.length 0) (edgesL code)) (fromAt (List.replicate can.length 0) (edgesL code)) can can.length = blocksL code := by
  subst hcan
  unfold blocksL
  cases hb : hasB code
  · have h0 : (reachL code (-1)).length = 0 := by rw [reachL_length, hb]; rfl
    rw [h0]; rfl
  · have h1 : (reachL code (-1)).length = code.length := by rw [reachL_length, hb]; rfl
    rw [h1]
    exact rblocksTo_eq code _ code.length _ (fun e he => ⟨(edgesL_mem he).2.2.1, (edgesL_mem he).2.2.2.1⟩) _ (Nat.le_refl _)
end Go.Proofs.YtapjdndcnenadaaDoor
