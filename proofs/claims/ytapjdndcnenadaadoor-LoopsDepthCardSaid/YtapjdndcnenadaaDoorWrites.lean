/- code.Writes and the reference's: the register that an instruction writes. -/
import Derived.Test.YtapjdndcnenadaaDoorRound
namespace Go.Proofs.YtapjdndcnenadaaDoor
open Go.RowKit

def writesB (op : Int) : Bool := decide ((1 ≤ op ∧ op ≤ 11) ∨ op = 18 ∨ op = 19)
/-- The table of operations, as far as it is asked. -/
def WritesIn (w : World) : Prop := ∀ i : Nat, i < 20 → w.cell? ⟨0, i * 7 + 6, none⟩ = some (.bool (writesB i))
theorem WritesIn.next {w w' : World} (h : WritesIn w) (hb : Below w.heap.size w w') : WritesIn w' := fun i hi => by
  have h1 := h i hi
  exact (hb.cell (block_lt_of_cell h1)).trans h1
def writesI (op a : Int) : Int := if writesB op = true then a else -1
def insV (x : Ins) : Value := .agg #[.int .i64 x.op, .int .i64 x.a, .int .i64 x.b, .int .i64 x.c, .int .i64 x.n]

set_option maxHeartbeats 1000000 in
theorem writes_any (x : Ins) (w : World) (hw : WritesIn w) :
    Calls Tryd.prog 38 #[insV x] w (Gives (.int .i64 (writesI x.op x.a)) w) := by
  obtain ⟨op, a, b, c, n⟩ := x
  have hb : Below w.heap.size w (w.alloc (.cells #[.int .i64 op, .int .i64 a, .int .i64 b, .int .i64 c, .int .i64 n] 52)) := (Below.refl _ _).alloc (Nat.le_refl _) _
  have Hb := Lib.hid hb
  have hg : 0 < w.heap.size := block_lt_of_cell (hw 0 (by omega))
  by_cases h : 0 ≤ op ∧ op ≤ 19
  · obtain ⟨h1, h2⟩ := h
    obtain ⟨i, rfl⟩ := Int.eq_ofNat_of_zero_le h1
    have hi : i < 20 := by omega
    have hc := hw.next hb i hi
    have hk : knownB (i : Int) = true := by simp [knownB]; omega
    obtain ⟨W, hW⟩ : ∃ W, W = writesB (i : Int) := ⟨_, rfl⟩
    have Hres : Hid (writesI (i : Int) a = if W = true then a else -1) := by rw [hW]; exact rfl
    rw [← hW] at hc
    clear h1 h2 hw hb hW
    cases W
    all_goals
      unfold insV
      go_enter Tryd.func38, Tryd.ntmps38
      go_wp2_with fail
      refine (known_any _ _).mono ?_
      rintro e w' ⟨rfl, rfl⟩
      rw [hk]
      go_wp2_with fail
      go_ret
      exact ⟨by rw [Hres.out]; rfl, Hb.out⟩
  · have hk : knownB op = false := by simp [knownB]; omega
    have Hres : Hid (writesI op a = -1) := by
      show _ = _
      unfold writesI writesB
      rw [if_neg]
      simp only [decide_eq_true_eq]
      omega
    clear h hw hb
    unfold insV
    go_enter Tryd.func38, Tryd.ntmps38
    go_wp2_with fail
    refine (known_any _ _).mono ?_
    rintro e w' ⟨rfl, rfl⟩
    rw [hk]
    go_wp2_with fail
    go_ret
    exact ⟨by rw [Hres.out]; rfl, Hb.out⟩

set_option maxHeartbeats 1000000 in
theorem rwrites_any (x : Ins) (w : World) :
    Calls Tryd.prog 17 #[insV x] w (Gives (.int .i64 (writesI x.op x.a)) w) := by
  obtain ⟨op, a, b, c, n⟩ := x
  have hb : Below w.heap.size w (w.alloc (.cells #[.int .i64 op, .int .i64 a, .int .i64 b, .int .i64 c, .int .i64 n] 52)) := (Below.refl _ _).alloc (Nat.le_refl _) _
  have Hb := Lib.hid hb
  obtain ⟨y, hy⟩ : ∃ y, y = writesI op a := ⟨_, rfl⟩
  have Hy := Lib.hid hy
  clear hb
  have key : ∀ z : Int, (writesB op = true → z = a) → (writesB op = false → z = -1) → z = writesI op a := fun z h1 h2 => by
    unfold writesI
    cases h : writesB op
    · simp [h2 h]
    · simp [h1 h]
  clear hy
  unfold insV
  go_enter Tryd.func17, Tryd.ntmps17
  go_wp2_with fail
  all_goals
    go_ret
    refine ⟨ret_int (key _ (fun h => ?_) (fun h => ?_)), Hb.out⟩
    all_goals (unfold writesB at h; simp only [beq_iff_eq, beq_eq_false_iff_ne, ne_eq, decide_eq_true_eq, decide_eq_false_iff_not] at *; try omega)
end Go.Proofs.YtapjdndcnenadaaDoor
