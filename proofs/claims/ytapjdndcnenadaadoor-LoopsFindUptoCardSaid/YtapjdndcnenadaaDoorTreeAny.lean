/- dom.Tree of every function; climbing. -/
import Derived.Test.YtapjdndcnenadaaDoorTree
namespace Go.Proofs.YtapjdndcnenadaaDoor
open Go.RowKit

open Classical in
/-- The nearest dominators (none, where there is no graph). -/
noncomputable def treeL (code : List Ins) : List Int := if h : hasB code = true ∧ ∃ l, IsTree code l then Classical.choose h.2 else []
theorem treeL_eq {code : List Ins} {l : List Int} (hh : hasB code = true) (h : IsTree code l) : treeL code = l := by
  unfold treeL
  rw [dif_pos ⟨hh, l, h⟩]
  exact (Classical.choose_spec (⟨l, h⟩ : ∃ l, IsTree code l)).uniq h
theorem treeL_none {code : List Ins} (hh : hasB code = false) : treeL code = [] := by
  unfold treeL
  rw [dif_neg (by rw [hh]; simp)]

/-- What a call of Tree comes to. -/
def RetTree (code : List Ins) (w : World) (e : Ending) (w' : World) : Prop := (hasB code = true → IsTree code (treeL code)) ∧ RetInts (treeL code) w e w'

set_option maxHeartbeats 400000 in
theorem tree_any (s : ByteArray) (vp : Value) (regs words : Int) (vc : Value) (code : List Ins) (w : World) (hc : CodeIn w vc code) :
    Calls Tryd.prog 33 #[fnV s vp regs words vc] w (RetTree code w) := by
  cases hh : hasB code
  · have e : treeL code = [] := treeL_none hh
    obtain ⟨-, ca, cap, rfl, -⟩ := hc
    have hh' : ¬ (0 < code.length ∧ code.length ≤ 1024) := by simpa [hasB] using hh
    suffices h : Calls Tryd.prog 33 #[fnV s vp regs words (.slice ca code.length cap)] w (RetInts [] w) from h.mono fun _ _ hr => ⟨fun h' => by (rw [hh] at h'; cases h'), by rw [e]; exact hr⟩
    clear hh e
    generalize code.length = len at *
    by_cases h0 : len = 0
    · have hz : ((len : Int) == 0) = true := beq_iff_eq.2 (by omega)
      clear h0 hh'
      go_enter Tryd.func33, Tryd.ntmps33
      go_wp2_with fail
      go_step3
      go_wp2_with fail
      rw [Exit.noGoto_ret]
      go_ret
      exact ⟨_, rfl, World.ownsRow_nil _ _ _ _, (Below.refl _ _).alloc (Nat.le_refl _) _⟩
    · have hz : ((len : Int) == 0) = false := beq_eq_false_iff_ne.2 (by omega)
      have hb : 1024 < len := by omega
      clear h0 hh'
      go_enter Tryd.func33, Tryd.ntmps33
      go_wp2_with fail
      go_step3
      go_wp2_with fail
      rw [Exit.noGoto_ret]
      go_ret
      exact ⟨_, rfl, World.ownsRow_nil _ _ _ _, (Below.refl _ _).alloc (Nat.le_refl _) _⟩
  · refine (tree_some s vp regs words vc code w hh hc).mono ?_
    rintro e w' ⟨l, ht, hr⟩
    have e := treeL_eq hh ht
    exact ⟨fun _ => by rw [e]; exact ht, by rw [e]; exact hr⟩

open Classical in
noncomputable def domB (code : List Ins) (a b : Int) : Bool := decide (hasB code = true ∧ 0 ≤ a ∧ a < code.length ∧ 0 ≤ b ∧ b < code.length ∧ Dom code a.toNat b.toNat)

open Classical in
theorem domB_iff {code : List Ins} {a b : Int} : domB code a b = true ↔ hasB code = true ∧ 0 ≤ a ∧ a < code.length ∧ 0 ≤ b ∧ b < code.length ∧ Dom code a.toNat b.toNat := by
  unfold domB
  rw [decide_eq_true_iff]

open Classical in
noncomputable def domCount (code : List Ins) (v : Nat) : Nat := (List.range code.length).countP fun a => decide (Dom code a v)
theorem domCount_lt {code : List Ins} {p v : Nat} (hh : 0 < code.length) (h : Dom code p v) (hne : p ≠ v) : domCount code p + 1 ≤ domCount code v :=
  countP_lt (p := fun a => Dom code a p) (q := fun a => Dom code a v) (List.range code.length) (fun _ _ hx => hx.trans h) (List.mem_range.2 (h.2.1.lt hh)) (Dom.refl h.2.1) (fun h2 => hne (h.antisymm h2))

/-- On the way up from b, at x: so far a was not met. -/
def Climb (code : List Ins) (a b : Nat) (x : Int) : Prop := (x = -1 ∧ ¬ Dom code a b) ∨ ∃ y : Nat, x = (y : Int) ∧ y < code.length ∧ Rch code (-1) y ∧ (Dom code a b ↔ Dom code a y)
open Classical in
noncomputable def climbMeas (code : List Ins) (x : Int) : Nat := if x < 0 then 0 else domCount code x.toNat + 1

theorem Climb.up {code : List Ins} {l : List Int} (hh : 0 < code.length) (ht : IsTree code l) {a b y : Nat} (h : Climb code a b (y : Int)) (hne : y ≠ a) : Climb code a b (l.getD y 0) ∧ climbMeas code (l.getD y 0) < climbMeas code (y : Int) := by
  rcases h with ⟨h, _⟩ | ⟨y', h1, h2, h3, h4⟩
  · omega
  · obtain rfl : y = y' := by omega
    by_cases h0 : y = 0
    · subst h0
      rw [ht.none 0 h2 (.inl rfl)]
      refine ⟨.inl ⟨rfl, fun hd => hne ((h4.1 hd).of_zero).symm⟩, ?_⟩
      simp [climbMeas]
    · obtain ⟨p, e, g1, g2, g3⟩ := ht.some y h2 h0 h3
      rw [e]
      refine ⟨.inr ⟨p, rfl, g2.1.lt hh, g2.1, h4.trans ⟨fun hd => g3 a hd (fun e => hne e.symm), fun hd => hd.trans g2⟩⟩, ?_⟩
      have := domCount_lt hh g2 g1
      simp only [climbMeas, Int.toNat_natCast]
      rw [if_neg (by omega), if_neg (by omega)]
      omega
theorem Climb.met {code : List Ins} {a b : Nat} (h : Climb code a b (a : Int)) : Dom code a b := by
  rcases h with ⟨h, _⟩ | ⟨y, h1, h2, h3, h4⟩
  · omega
  · obtain rfl : a = y := by omega
    exact h4.2 (.refl h3)

end Go.Proofs.YtapjdndcnenadaaDoor
