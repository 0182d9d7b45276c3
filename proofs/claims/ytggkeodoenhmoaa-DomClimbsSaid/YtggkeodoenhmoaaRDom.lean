/- R13.Dominates: by its definition. -/
import Derived.Test.YtggkeodoenhmoaaDominates
import Derived.Test.YtggkeodoenhmoaaWithout
namespace Go.Proofs.Ytggkeodoenhmoaa
open Go.RowKit

set_option maxRecDepth 100000 in
set_option maxHeartbeats 2000000 in
theorem rdom_any (s : ByteArray) (vp : Value) (regs words : Int) (vc : Value) (code : List Ins) (a b : Int) (w : World) (hlen : code.length * 40 ≤ 140737488351232) (hc : CodeIn w vc code) :
    Calls Try.prog 28 #[fnV s vp regs words vc, .int .i64 a, .int .i64 b] w (Gives (.bool (domB code a b)) w) := by
  have hb0 : Below w.heap.size w (w.alloc (.cells #[.string s, vp, .int .i64 regs, .int .i64 words, vc] 25)) := (Below.refl _ _).alloc (Nat.le_refl _) _
  have Hc1 : Hid (CodeIn (w.alloc (.cells #[.string s, vp, .int .i64 regs, .int .i64 words, vc] 25)) vc code) := SliceIn.later hc hb0
  have Hc := Lib.hid hc
  have Hlen := Lib.hid hlen
  clear hc hlen hb0
  go_enter Try.func28, Try.ntmps28
  go_wp2_with fail
  refine (rreach_any s vp regs words vc code _ Hlen.out Hc1.out).mono ?_
  rintro e w1 ⟨v7, rfl, hv7, hb1⟩
  have hbl : Below w.heap.size w w1 := ((Below.refl _ _).alloc (Nat.le_refl _) _).trans (hb1.mono (by simp))
  have hfn : FnAt w1 w.heap.size s vp regs words vc := (FnAt.box w s vp regs words vc _).later hb1 (by simp)
  obtain ⟨can, hcan⟩ : ∃ can, can = reachL code (-1) := ⟨_, rfl⟩
  rw [← hcan] at hv7
  have hlen : can.length = if hasB code = true then code.length else 0 := by rw [hcan, reachL_length]
  have hlen2 : can.length ≤ 1024 := by
    rw [hlen]; split
    · rename_i h; simp [hasB] at h; exact h.2
    · omega
  obtain ⟨a7, c7, rfl, ha7⟩ : ∃ a7 c7, v7 = .slice a7 can.length c7 ∧ (0 < can.length → ∃ g, a7 = some ⟨g, 0, none⟩) := by
    rcases hv7.form with ⟨h, h2⟩ | ⟨g, c, h, _⟩
    · exact ⟨none, 0, by rw [h, h2]; rfl, by rw [h2]; simp⟩
    · exact ⟨_, _, h, fun _ => ⟨g, rfl⟩⟩
  obtain ⟨n, hn⟩ : ∃ n, n = can.length := ⟨_, rfl⟩
  rw [← hn] at ha7 hv7 hlen2 hlen ⊢
  have hsz : w.heap.size < w1.heap.size := by have := hb1.size; simp at this; omega
  have Hl := Lib.hid hlen
  have Hn := Lib.hid hn
  have Hcan := Lib.hid hcan
  have Hv7 := Lib.hid hv7
  have Hbl := Lib.hid hbl
  have Hfn := Lib.hid hfn
  clear hlen hn hcan hv7 hbl hb1 hfn Hc1
  have hno : ¬ (0 ≤ a ∧ a < n ∧ 0 ≤ b ∧ b < n) → domB code a b = false := fun h => by
    rw [Bool.eq_false_iff]
    intro h'
    obtain ⟨h1, h2, h3, h4, h5, _⟩ := domB_iff.1 h'
    have := Hl.out
    rw [if_pos h1] at this
    omega
  have Hno := Lib.hid hno
  clear hno
  by_cases h1 : 0 ≤ a
  · by_cases h2 : a < n
    · by_cases h3 : 0 ≤ b
      · by_cases h4 : b < n
        · obtain ⟨g7, rfl⟩ := ha7 (by omega)
          obtain ⟨a, rfl⟩ := Int.eq_ofNat_of_zero_le h1
          obtain ⟨b, rfl⟩ := Int.eq_ofNat_of_zero_le h3
          have ha : a < n := by omega
          have hb : b < n := by omega
          have hh : hasB code = true := by
            cases hh : hasB code
            · have := Hl.out; rw [hh] at this; simp at this; omega
            · rfl
          have hcl : n = code.length := by have := Hl.out; rw [if_pos hh] at this; exact this
          have hdB : domB code a b = true ↔ Dom code a b := by
            rw [domB_iff]
            constructor
            · rintro ⟨_, _, _, _, _, h⟩; simpa using h
            · intro h; exact ⟨hh, by omega, by omega, by omega, by omega, by simpa using h⟩
          have hca := OwnBools.cell Hv7.out (k := a) (by rw [← Hn.out]; exact ha)
          have hcb := OwnBools.cell Hv7.out (k := b) (by rw [← Hn.out]; exact hb)
          have hra : can.getD a false = true ↔ Rch code (-1) a := by rw [Hcan.out]; exact reachL_get hh (by omega)
          have hrb : can.getD b false = true ↔ Rch code (-1) b := by rw [Hcan.out]; exact reachL_get hh (by omega)
          have hwb : (reachL code (a : Int)).getD b false = true ↔ Rch code (a : Int) b := reachL_get hh (by omega)
          have hwl : (reachL code (a : Int)).length = n := by rw [reachL_length, if_pos hh, hcl]
          have Hd := Lib.hid (And.intro hdB (And.intro hra (And.intro hrb hwb)))
          have Hwl := Lib.hid hwl
          clear h1 h2 h3 h4 hh hcl hdB hra hrb hwb hwl
          cases hx : can.getD a false
          · rw [hx] at hca
            have Hf : Hid (domB code a b = false) := Bool.eq_false_iff.2 fun h => by
              have := Hd.out.2.1.2 (Hd.out.1.1 h).1
              rw [hx] at this; cases this
            generalize can.getD b false = y at hcb
            clear hx
            go_wp2_with fail
            go_ret
            exact ⟨(by rw [Hf.out]; rfl), Hbl.out⟩
          · cases hy : can.getD b false
            · rw [hx] at hca
              rw [hy] at hcb
              have Hf : Hid (domB code a b = false) := Bool.eq_false_iff.2 fun h => by
                have := Hd.out.2.2.1.2 (Hd.out.1.1 h).2.1
                rw [hy] at this; cases this
              clear hx hy
              go_wp2_with fail
              go_ret
              exact ⟨(by rw [Hf.out]; rfl), Hbl.out⟩
            · rw [hx] at hca
              rw [hy] at hcb
              have Hra : Hid (Rch code (-1) a ∧ Rch code (-1) b) := ⟨Hd.out.2.1.1 hx, Hd.out.2.2.1.1 hy⟩
              obtain ⟨f0, f1, f2, f3, f4⟩ := Hfn.out
              clear hx hy
              go_wp2_with fail
              refine (without_any s vp regs words vc code (a : Int) _ Hlen.out (SliceIn.later Hc.out Hbl.out)).mono ?_
              rintro e w2 ⟨v8, rfl, hv8, hb2⟩
              have Hb2 : Hid (Below w.heap.size w w2) := Hbl.out.trans (hb2.mono (by omega))
              obtain ⟨g8, c8, rfl⟩ : ∃ g c, v8 = .slice (some ⟨g, 0, none⟩) n c := by
                rcases hv8.form with ⟨_, h2⟩ | ⟨g, c, h, _⟩
                · have := Hwl.out; rw [h2] at this; simp at this; omega
                · exact ⟨g, c, by rw [h, Hwl.out]⟩
              have hcw := OwnBools.cell hv8 (k := b) (by rw [Hwl.out]; exact hb)
              clear hv8 hb2 f0 f1 f2 f3 f4
              by_cases hab : a = b
              · have Hf : Hid (domB code a b = true) := Hd.out.1.2 ⟨Hra.out.1, Hra.out.2, .inl hab⟩
                have hq : ((a : Int) == (b : Int)) = true := by simp [hab]
                generalize (reachL code (a : Int)).getD b false = z at hcw
                clear hab
                go_wp2_with fail
                go_ret
                exact ⟨(by rw [Hf.out]; rfl), Hb2.out⟩
              · have hq : ((a : Int) == (b : Int)) = false := by simp; omega
                cases hz : (reachL code (a : Int)).getD b false
                · have Hf : Hid (domB code a b = true) := Hd.out.1.2 ⟨Hra.out.1, Hra.out.2, .inr fun h => by
                    have := Hd.out.2.2.2.2 h
                    rw [hz] at this; cases this⟩
                  rw [hz] at hcw
                  clear hab hz
                  go_wp2_with fail
                  go_ret
                  exact ⟨(by rw [Hf.out]; rfl), Hb2.out⟩
                · have Hf : Hid (domB code a b = false) := Bool.eq_false_iff.2 fun h => by
                    rcases (Hd.out.1.1 h).2.2 with e | e
                    · exact hab e
                    · exact e (Hd.out.2.2.2.1 hz)
                  rw [hz] at hcw
                  clear hab hz
                  go_wp2_with fail
                  go_ret
                  exact ⟨(by rw [Hf.out]; rfl), Hb2.out⟩
        · go_wp2_with fail
          go_ret
          exact ⟨(by rw [Hno.out (by omega)]; rfl), Hbl.out⟩
      · go_wp2_with fail
        go_ret
        exact ⟨(by rw [Hno.out (by omega)]; rfl), Hbl.out⟩
    · go_wp2_with fail
      go_ret
      exact ⟨(by rw [Hno.out (by omega)]; rfl), Hbl.out⟩
  · go_wp2_with fail
    go_ret
    exact ⟨(by rw [Hno.out (by omega)]; rfl), Hbl.out⟩
end Go.Proofs.Ytggkeodoenhmoaa
