/- dom.Tree and dom.Dominates of every function. -/
import Derived.Test.YtggkeodoenhmoaaTree
namespace Go.Proofs.Ytggkeodoenhmoaa
open Go.RowKit

open Classical in
/-- The nearest dominators (none, where there is no graph). -/
noncomputable def treeL (code : List Ins) : List Int := if h : hasB code = true ∧ ∃ l, IsTree code l then Classical.choose h.2 else []
theorem treeL_eq {code : List Ins} {l : List Int} (hh : hasB code = true) (h : IsTree code l) : treeL code = l := by
  unfold treeL
  rw [dif_pos ⟨hh, l, h⟩]
  exact (Classical.choose_spec (⟨l, h⟩ : ∃ l, IsTree code l)).uniq h
theorem treeL_none {code : List Ins} (hh : hasB code = false) : treeL code = [] := by
  unfold treeL
  rw [dif_neg (by rw [hh]; simp)]

/-- What a call of Tree comes to. -/
def RetTree (code : List Ins) (w : World) (e : Ending) (w' : World) : Prop := (hasB code = true → IsTree code (treeL code)) ∧ RetInts (treeL code) w e w'

set_option maxHeartbeats 400000 in
theorem tree_any (s : ByteArray) (vp : Value) (regs words : Int) (vc : Value) (code : List Ins) (w : World) (hc : CodeIn w vc code) :
    Calls Try.prog 29 #[fnV s vp regs words vc] w (RetTree code w) := by
  cases hh : hasB code
  · have e : treeL code = [] := treeL_none hh
    obtain ⟨-, ca, cap, rfl, -⟩ := hc
    have hh' : ¬ (0 < code.length ∧ code.length ≤ 1024) := by simpa [hasB] using hh
    suffices h : Calls Try.prog 29 #[fnV s vp regs words (.slice ca code.length cap)] w (RetInts [] w) from h.mono fun _ _ hr => ⟨fun h' => by (rw [hh] at h'; cases h'), by rw [e]; exact hr⟩
    clear hh e
    generalize code.length = len at *
    by_cases h0 : len = 0
    · have hz : ((len : Int) == 0) = true := beq_iff_eq.2 (by omega)
      clear h0 hh'
      go_enter Try.func29, Try.ntmps29
      go_wp2_with fail
      go_step3
      go_wp2_with fail
      rw [Exit.noGoto_ret]
      go_ret
      exact ⟨_, rfl, World.ownsRow_nil _ _ _ _, (Below.refl _ _).alloc (Nat.le_refl _) _⟩
    · have hz : ((len : Int) == 0) = false := beq_eq_false_iff_ne.2 (by omega)
      have hb : 1024 < len := by omega
      clear h0 hh'
      go_enter Try.func29, Try.ntmps29
      go_wp2_with fail
      go_step3
      go_wp2_with fail
      rw [Exit.noGoto_ret]
      go_ret
      exact ⟨_, rfl, World.ownsRow_nil _ _ _ _, (Below.refl _ _).alloc (Nat.le_refl _) _⟩
  · refine (tree_some s vp regs words vc code w hh hc).mono ?_
    rintro e w' ⟨l, ht, hr⟩
    have e := treeL_eq hh ht
    exact ⟨fun _ => by rw [e]; exact ht, by rw [e]; exact hr⟩

open Classical in
noncomputable def domB (code : List Ins) (a b : Int) : Bool := decide (hasB code = true ∧ 0 ≤ a ∧ a < code.length ∧ 0 ≤ b ∧ b < code.length ∧ Dom code a.toNat b.toNat)

open Classical in
theorem domB_iff {code : List Ins} {a b : Int} : domB code a b = true ↔ hasB code = true ∧ 0 ≤ a ∧ a < code.length ∧ 0 ≤ b ∧ b < code.length ∧ Dom code a.toNat b.toNat := by
  unfold domB
  rw [decide_eq_true_iff]

open Classical in
noncomputable def domCount (code : List Ins) (v : Nat) : Nat := (List.range code.length).countP fun a => decide (Dom code a v)
theorem domCount_lt {code : List Ins} {p v : Nat} (hh : 0 < code.length) (h : Dom code p v) (hne : p ≠ v) : domCount code p + 1 ≤ domCount code v :=
  countP_lt (p := fun a => Dom code a p) (q := fun a => Dom code a v) (List.range code.length) (fun _ _ hx => hx.trans h) (List.mem_range.2 (h.2.1.lt hh)) (Dom.refl h.2.1) (fun h2 => hne (h.antisymm h2))

/-- On the way up from b, at x: so far a was not met. -/
def Climb (code : List Ins) (a b : Nat) (x : Int) : Prop := (x = -1 ∧ ¬ Dom code a b) ∨ ∃ y : Nat, x = (y : Int) ∧ y < code.length ∧ Rch code (-1) y ∧ (Dom code a b ↔ Dom code a y)
open Classical in
noncomputable def climbMeas (code : List Ins) (x : Int) : Nat := if x < 0 then 0 else domCount code x.toNat + 1

theorem Climb.up {code : List Ins} {l : List Int} (hh : 0 < code.length) (ht : IsTree code l) {a b y : Nat} (h : Climb code a b (y : Int)) (hne : y ≠ a) : Climb code a b (l.getD y 0) ∧ climbMeas code (l.getD y 0) < climbMeas code (y : Int) := by
  rcases h with ⟨h, _⟩ | ⟨y', h1, h2, h3, h4⟩
  · omega
  · obtain rfl : y = y' := by omega
    by_cases h0 : y = 0
    · subst h0
      rw [ht.none 0 h2 (.inl rfl)]
      refine ⟨.inl ⟨rfl, fun hd => hne ((h4.1 hd).of_zero).symm⟩, ?_⟩
      simp [climbMeas]
    · obtain ⟨p, e, g1, g2, g3⟩ := ht.some y h2 h0 h3
      rw [e]
      refine ⟨.inr ⟨p, rfl, g2.1.lt hh, g2.1, h4.trans ⟨fun hd => g3 a hd (fun e => hne e.symm), fun hd => hd.trans g2⟩⟩, ?_⟩
      have := domCount_lt hh g2 g1
      simp only [climbMeas, Int.toNat_natCast]
      rw [if_neg (by omega), if_neg (by omega)]
      omega
theorem Climb.met {code : List Ins} {a b : Nat} (h : Climb code a b (a : Int)) : Dom code a b := by
  rcases h with ⟨h, _⟩ | ⟨y, h1, h2, h3, h4⟩
  · omega
  · obtain rfl : a = y := by omega
    exact h4.2 (.refl h3)

set_option maxRecDepth 100000 in
set_option maxHeartbeats 2000000 in
theorem dominates_any (s : ByteArray) (vp : Value) (regs words : Int) (vc : Value) (code : List Ins) (a b : Int) (w : World) (hc : CodeIn w vc code) :
    Calls Try.prog 26 #[fnV s vp regs words vc, .int .i64 a, .int .i64 b] w (fun e w' => (hasB code = true → IsTree code (treeL code)) ∧ Gives (.bool (domB code a b)) w e w') := by
  have Hc1 : Hid (CodeIn (w.alloc (.cells #[.string s, vp, .int .i64 regs, .int .i64 words, vc] 25)) vc code) := SliceIn.later hc ((Below.refl _ _).alloc (Nat.le_refl _) _)
  clear hc
  go_enter Try.func26, Try.ntmps26
  go_wp2_with fail
  refine (tree_any s vp regs words vc code _ Hc1.out).mono ?_
  rintro e w1 ⟨htree, v7, rfl, hv7, hb1⟩
  have hbl : Below w.heap.size w w1 := ((Below.refl _ _).alloc (Nat.le_refl _) _).trans (hb1.mono (by simp))
  have hlen : (treeL code).length = if hasB code = true then code.length else 0 := by
    cases hh : hasB code
    · rw [treeL_none hh]; rfl
    · rw [(htree hh).len]; rfl
  have hlen2 : (treeL code).length ≤ 1024 := by
    rw [hlen]; split
    · rename_i h; simp [hasB] at h; exact h.2
    · omega
  obtain ⟨L, hL⟩ : ∃ L, L = treeL code := ⟨_, rfl⟩
  rw [← hL] at htree hv7 hlen hlen2
  obtain ⟨a7, c7, rfl, ha7⟩ : ∃ a7 c7, v7 = .slice a7 L.length c7 ∧ (0 < L.length → ∃ g, a7 = some ⟨g, 0, none⟩) := by
    rcases hv7.form with ⟨h, h2⟩ | ⟨g, c, h, _⟩
    · exact ⟨none, 0, by rw [h, h2]; rfl, by rw [h2]; simp⟩
    · exact ⟨_, _, h, fun _ => ⟨g, rfl⟩⟩
  obtain ⟨n, hn⟩ : ∃ n, n = L.length := ⟨_, rfl⟩
  rw [← hn] at ha7 hv7 hlen2 hlen ⊢
  have Hlen := Lib.hid hlen
  have Hn := Lib.hid hn
  have HL := Lib.hid hL
  have Ht := Lib.hid htree
  have Hv7 := Lib.hid hv7
  have Hbl := Lib.hid hbl
  clear hlen hn hL htree hv7 hbl hb1
  have hno : ¬ (0 ≤ a ∧ a < n ∧ 0 ≤ b ∧ b < n) → domB code a b = false := fun h => by
    rw [Bool.eq_false_iff]
    intro h'
    obtain ⟨h1, h2, h3, h4, h5, _⟩ := domB_iff.1 h'
    have := Hlen.out
    rw [if_pos h1] at this
    omega
  have Hno := Lib.hid hno
  clear hno
  by_cases h1 : 0 ≤ a
  · by_cases h2 : a < n
    · by_cases h3 : 0 ≤ b
      · by_cases h4 : b < n
        · obtain ⟨g7, rfl⟩ := ha7 (by omega)
          obtain ⟨a, rfl⟩ := Int.eq_ofNat_of_zero_le h1
          obtain ⟨b, rfl⟩ := Int.eq_ofNat_of_zero_le h3
          have ha : a < n := by omega
          have hb : b < n := by omega
          have hh : hasB code = true := by
            cases hh : hasB code
            · have := Hlen.out; rw [hh] at this; simp at this; omega
            · rfl
          have hcl : n = code.length := by have := Hlen.out; rw [if_pos hh] at this; exact this
          have hT := Ht.out hh
          have hpos : 0 < code.length := by omega
          have hdB : domB code a b = true ↔ Dom code a b := by
            rw [domB_iff]
            constructor
            · rintro ⟨_, _, _, _, _, h⟩; simpa using h
            · intro h; exact ⟨hh, by omega, by omega, by omega, by omega, by simpa using h⟩
          have hcb := OwnInts.cell Hv7.out (k := b) (by rw [← Hn.out]; exact hb)
          have HT := Lib.hid hT
          have Hcl := Lib.hid hcl
          have Hh := Lib.hid hh
          have HdB := Lib.hid hdB
          clear hT hcl hh hdB h1 h2 h3 h4
          by_cases hr : b = 0 ∨ Rch code (-1) b
          · have hc0 : Climb code a b (b : Int) := by
              refine .inr ⟨b, rfl, by rw [← Hcl.out]; exact hb, ?_, Iff.rfl⟩
              rcases hr with h | h
              · rw [h]; exact .start (by decide)
              · exact h
            have hcs : (b : Int) ≤ 0 ∨ (0 < b ∧ 0 ≤ L.getD b 0) := by
              by_cases h0 : b = 0
              · exact .inl (by omega)
              · right
                refine ⟨by omega, ?_⟩
                rcases hr with h | h
                · exact absurd h h0
                · obtain ⟨p, e, _⟩ := HT.out.some b (by rw [← Hcl.out]; exact hb) h0 h
                  rw [e]; omega
            have Hc0 := Lib.hid hc0
            generalize L.getD b 0 = y at hcb hcs
            clear hr hc0
            rcases hcs with hcs | ⟨hcs1, hcs2⟩
            · have hg1 : decide (0 < b) = false := by simp; omega
              have hg2 : decide ((0 : Int) < (b : Int)) = false := by simp; omega
              go_wp2_with fail
              go_loopg [2] (climbMeas code (b : Int)) (fun g bv wx => ∃ x : Int, g = climbMeas code x ∧ bv = .int .i64 x ∧ Climb code a b x ∧ ∃ q, wx = w1.drewN q)
              case atStart => exact ⟨(b : Int), rfl, rfl, Hc0.out, 0, rfl⟩
              case round =>
                obtain ⟨x, hg, rfl, hcl, q, rfl⟩ := hrel
                have Hg := Lib.hid hg
                have Hcx := Lib.hid hcl
                clear hg
                by_cases hx0 : 0 ≤ x
                · obtain ⟨x, rfl⟩ := Int.eq_ofNat_of_zero_le hx0
                  have hxn : x < n := by
                    rcases hcl with ⟨h, _⟩ | ⟨y', h, h2, _⟩
                    · omega
                    · rw [Hcl.out]; omega
                  clear hcl
                  by_cases hxa : x = a
                  · have hd : domB code a b = true := HdB.out.2 (Climb.met (by have := Hcx.out; rw [hxa] at this; exact this))
                    have hq1 : ((x : Int) != (a : Int)) = false := by simp [hxa]
                    have hq2 : ((x : Int) == (a : Int)) = true := by simp [hxa]
                    have Hd := Lib.hid hd
                    clear hd hxa
                    go_wp2_with fail
                    go_ret
                    exact ⟨fun h => by rw [← HL.out]; exact Ht.out h, (by rw [Hd.out]; rfl), below_drewN Hbl.out _⟩
                  · have hup := Climb.up (by rw [← Hcl.out]; omega) HT.out Hcx.out hxa
                    have hq1 : ((x : Int) != (a : Int)) = true := by rw [bne_iff_ne]; omega
                    have hcx := OwnInts.cell Hv7.out (k := x) (by rw [← Hn.out]; exact hxn)
                    have Hup := Lib.hid hup
                    generalize L.getD x 0 = z at hcx Hup
                    clear hup hxa
                    go_wp2_with fail
                    go_roundg (climbMeas code z)
                    case measure => rw [Hg.out]; exact Hup.out.2
                    case rel => exact ⟨z, rfl, rfl, Hup.out.1, q, rfl⟩
                · have hd : domB code a b = false := Bool.eq_false_iff.2 fun h => by
                    rcases hcl with ⟨_, h2⟩ | ⟨y', h2, _⟩
                    · exact h2 (HdB.out.1 h)
                    · omega
                  have hq1 : (x != (a : Int)) = true := by rw [bne_iff_ne]; omega
                  have hq2 : (x == (a : Int)) = false := by simp; omega
                  have hq3 : x < 0 := by omega
                  have Hd := Lib.hid hd
                  clear hd hcl
                  go_wp2_with fail
                  go_ret
                  exact ⟨fun h => by rw [← HL.out]; exact Ht.out h, (by rw [Hd.out]; rfl), below_drewN Hbl.out _⟩
            · have hg1 : decide (0 < b) = true := by simp; omega
              have hg2 : decide ((0 : Int) < (b : Int)) = true := by simp; omega
              go_wp2_with fail
              go_loopg [2] (climbMeas code (b : Int)) (fun g bv wx => ∃ x : Int, g = climbMeas code x ∧ bv = .int .i64 x ∧ Climb code a b x ∧ ∃ q, wx = w1.drewN q)
              case atStart => exact ⟨(b : Int), rfl, rfl, Hc0.out, 0, rfl⟩
              case round =>
                obtain ⟨x, hg, rfl, hcl, q, rfl⟩ := hrel
                have Hg := Lib.hid hg
                have Hcx := Lib.hid hcl
                clear hg
                by_cases hx0 : 0 ≤ x
                · obtain ⟨x, rfl⟩ := Int.eq_ofNat_of_zero_le hx0
                  have hxn : x < n := by
                    rcases hcl with ⟨h, _⟩ | ⟨y', h, h2, _⟩
                    · omega
                    · rw [Hcl.out]; omega
                  clear hcl
                  by_cases hxa : x = a
                  · have hd : domB code a b = true := HdB.out.2 (Climb.met (by have := Hcx.out; rw [hxa] at this; exact this))
                    have hq1 : ((x : Int) != (a : Int)) = false := by simp [hxa]
                    have hq2 : ((x : Int) == (a : Int)) = true := by simp [hxa]
                    have Hd := Lib.hid hd
                    clear hd hxa
                    go_wp2_with fail
                    go_ret
                    exact ⟨fun h => by rw [← HL.out]; exact Ht.out h, (by rw [Hd.out]; rfl), below_drewN Hbl.out _⟩
                  · have hup := Climb.up (by rw [← Hcl.out]; omega) HT.out Hcx.out hxa
                    have hq1 : ((x : Int) != (a : Int)) = true := by rw [bne_iff_ne]; omega
                    have hcx := OwnInts.cell Hv7.out (k := x) (by rw [← Hn.out]; exact hxn)
                    have Hup := Lib.hid hup
                    generalize L.getD x 0 = z at hcx Hup
                    clear hup hxa
                    go_wp2_with fail
                    go_roundg (climbMeas code z)
                    case measure => rw [Hg.out]; exact Hup.out.2
                    case rel => exact ⟨z, rfl, rfl, Hup.out.1, q, rfl⟩
                · have hd : domB code a b = false := Bool.eq_false_iff.2 fun h => by
                    rcases hcl with ⟨_, h2⟩ | ⟨y', h2, _⟩
                    · exact h2 (HdB.out.1 h)
                    · omega
                  have hq1 : (x != (a : Int)) = true := by rw [bne_iff_ne]; omega
                  have hq2 : (x == (a : Int)) = false := by simp; omega
                  have hq3 : x < 0 := by omega
                  have Hd := Lib.hid hd
                  clear hd hcl
                  go_wp2_with fail
                  go_ret
                  exact ⟨fun h => by rw [← HL.out]; exact Ht.out h, (by rw [Hd.out]; rfl), below_drewN Hbl.out _⟩
          · have hb0 : b ≠ 0 := fun h => hr (.inl h)
            have hy : L.getD b 0 = -1 := HT.out.none b (by rw [← Hcl.out]; exact hb) (.inr (fun h => hr (.inr h)))
            rw [hy] at hcb
            have hf : domB code a b = false := Bool.eq_false_iff.2 fun h => hr (.inr (HdB.out.1 h).2.1)
            have Hf := Lib.hid hf
            clear hy hf hr
            have hb1 : 0 < b := by omega
            go_wp2_with fail
            go_ret
            exact ⟨fun h => by rw [← HL.out]; exact Ht.out h, (by rw [Hf.out]; rfl), Hbl.out⟩
        · go_wp2_with fail
          go_ret
          exact ⟨fun h => by rw [← HL.out]; exact Ht.out h, (by rw [Hno.out (by omega)]; rfl), Hbl.out⟩
      · go_wp2_with fail
        go_ret
        exact ⟨fun h => by rw [← HL.out]; exact Ht.out h, (by rw [Hno.out (by omega)]; rfl), Hbl.out⟩
    · go_wp2_with fail
      go_ret
      exact ⟨fun h => by rw [← HL.out]; exact Ht.out h, (by rw [Hno.out (by omega)]; rfl), Hbl.out⟩
  · go_wp2_with fail
    go_ret
    exact ⟨fun h => by rw [← HL.out]; exact Ht.out h, (by rw [Hno.out (by omega)]; rfl), Hbl.out⟩
end Go.Proofs.Ytggkeodoenhmoaa
