/- The statement DomClimbs' walk: of every function and two numbers it answers true and leaves what was there. -/
import Derived.Test.YtggkeodoenhmoaaFixed13
import Derived.Test.YtggkeodoenhmoaaRDom
namespace Go.Proofs.Ytggkeodoenhmoaa
open Go.RowKit

/-- The number a dominates y. -/
def DomI (code : List Ins) (a : Int) (y : Nat) : Prop := 0 ≤ a ∧ Dom code a.toNat y
theorem domI_domB {code : List Ins} {a : Int} {b : Nat} (hh : hasB code = true) (hb : b < code.length) : domB code a b = true ↔ DomI code a b := by
  have h0 : 0 < code.length := by omega
  rw [domB_iff]
  constructor
  · rintro ⟨_, h1, _, _, _, h⟩; exact ⟨h1, by simpa using h⟩
  · rintro ⟨h1, h⟩; exact ⟨hh, h1, by have := h.1.lt h0; omega, by omega, by omega, by simpa using h⟩
theorem domI_zero {code : List Ins} {a : Int} (h : DomI code a 0) : a = 0 := by
  have := h.2.of_zero
  have := h.1
  omega
theorem domI_up {code : List Ins} {l : List Int} (ht : IsTree code l) {a : Int} {y : Nat} (hy : y < code.length) (h0 : y ≠ 0) (hr : Rch code (-1) y) :
    ∃ p : Nat, l.getD y 0 = (p : Int) ∧ p < code.length ∧ Rch code (-1) p ∧ domCount code p + 1 ≤ domCount code y ∧ (DomI code a y ↔ (y : Int) = a ∨ DomI code a p) := by
  have hl : 0 < code.length := by omega
  obtain ⟨p, e, g1, g2, g3⟩ := ht.some y hy h0 hr
  refine ⟨p, e, g2.1.lt hl, g2.1, domCount_lt hl g2 g1, ?_⟩
  constructor
  · rintro ⟨h1, h2⟩
    by_cases hya : (y : Int) = a
    · exact .inl hya
    · exact .inr ⟨h1, g3 _ h2 (by omega)⟩
  · rintro (h | ⟨h1, h2⟩)
    · exact ⟨by omega, by rw [← h]; simpa using Dom.refl hr⟩
    · exact ⟨h1, h2.trans g2⟩
theorem domCount_pos {code : List Ins} {y : Nat} (hl : 0 < code.length) (hr : Rch code (-1) y) : 1 ≤ domCount code y := by
  unfold domCount
  exact List.countP_pos_iff.2 ⟨y, List.mem_range.2 (hr.lt hl), by simpa using Dom.refl hr⟩
theorem domCount_le (code : List Ins) (y : Nat) : domCount code y ≤ code.length := by
  unfold domCount
  have := List.countP_le_length (p := fun a => @decide (Dom code a y) (Classical.propDecidable _)) (l := List.range code.length)
  simpa using this

set_option maxRecDepth 100000 in
set_option maxHeartbeats 4000000 in
theorem lawClimbs_any (s : ByteArray) (vp : Value) (regs words : Int) (vc : Value) (code : List Ins) (a b : Int) (w : World) (hlen : code.length * 40 ≤ 140737488351232) (hc : CodeIn w vc code) :
    Calls Try.prog 10 #[fnV s vp regs words vc, .int .i64 a, .int .i64 b] w (Gives (.bool true) w) := by
  have Hlen := Lib.hid hlen
  have Hc := Lib.hid hc
  clear hlen hc
  go_enter Try.func10, Try.ntmps10
  go_wp2_with fail
  refine (fixed13_any _).mono ?_
  rintro e wA ⟨rfl, hbA⟩
  have hbwA : Below w.heap.size w wA := ((Below.refl _ _).alloc (Nat.le_refl _) _).trans (hbA.mono (by simp))
  have HfA : Hid (FnAt wA w.heap.size s vp regs words vc) := (FnAt.box w s vp regs words vc _).later hbA (by simp)
  have hsA : w.heap.size < wA.heap.size := by have := hbA.size; simp at this; omega
  have HbwA := Lib.hid hbwA
  clear hbA hbwA
  obtain ⟨f0, f1, f2, f3, f4⟩ := HfA.out
  go_wp2_with fail
  refine (tree_any s vp regs words vc code _ (SliceIn.later Hc.out HbwA.out)).mono ?_
  rintro e wB ⟨htree, v7, rfl, hv7, hbB⟩
  have HfB : Hid (FnAt wB w.heap.size s vp regs words vc ∧ Below w.heap.size w wB) := ⟨HfA.out.later hbB hsA, HbwA.out.trans (hbB.mono (by omega))⟩
  have hsB : w.heap.size < wB.heap.size := Nat.lt_of_lt_of_le hsA hbB.size
  clear f0 f1 f2 f3 f4 hbB HfA HbwA
  obtain ⟨f0, f1, f2, f3, f4⟩ := HfB.out.1
  obtain ⟨L, hL⟩ : ∃ L, L = treeL code := ⟨_, rfl⟩
  rw [← hL] at htree hv7
  have Ht := Lib.hid htree
  have Hv7 : Hid (OwnInts wB 0 v7 L) := ownsRow_mono hv7 (Nat.zero_le _)
  have HL := Lib.hid hL
  clear htree hv7 hL hsA
  go_wp2_with fail
  refine (rreach_any s vp regs words vc code _ Hlen.out (SliceIn.later Hc.out HfB.out.2)).mono ?_
  rintro e wC ⟨v8, rfl, hv8, hbC⟩
  have HfC : Hid (FnAt wC w.heap.size s vp regs words vc ∧ Below w.heap.size w wC) := ⟨HfB.out.1.later hbC hsB, HfB.out.2.trans (hbC.mono (by omega))⟩
  have hsC : w.heap.size < wC.heap.size := Nat.lt_of_lt_of_le hsB hbC.size
  have hv7C : OwnInts wC 0 v7 L := ownsRow_below Hv7.out hbC (Nat.le_refl _)
  have hv8C : OwnBools wC 0 v8 (reachL code (-1)) := ownsRow_mono hv8 (Nat.zero_le _)
  clear f0 f1 f2 f3 f4 hbC HfB hv8 Hv7 hsB
  obtain ⟨can, hcan⟩ : ∃ can, can = reachL code (-1) := ⟨_, rfl⟩
  rw [← hcan] at hv8C
  have hlc : can.length = if hasB code = true then code.length else 0 := by rw [hcan, reachL_length]
  have hll : L.length = can.length := by
    rw [hlc, HL.out]
    cases hh : hasB code
    · rw [treeL_none hh]; rfl
    · rw [← HL.out, (Ht.out hh).len]; rfl
  obtain ⟨a7, c7, rfl, ha7⟩ : ∃ a7 c7, v7 = .slice a7 L.length c7 ∧ (0 < L.length → ∃ g, a7 = some ⟨g, 0, none⟩) := by
    rcases hv7C.form with ⟨h, h2⟩ | ⟨g, c, h, _⟩
    · exact ⟨none, 0, by rw [h, h2]; rfl, by rw [h2]; simp⟩
    · exact ⟨_, _, h, fun _ => ⟨g, rfl⟩⟩
  obtain ⟨a8, c8, rfl, ha8⟩ : ∃ a8 c8, v8 = .slice a8 can.length c8 ∧ (0 < can.length → ∃ g, a8 = some ⟨g, 0, none⟩) := by
    rcases hv8C.form with ⟨h, h2⟩ | ⟨g, c, h, _⟩
    · exact ⟨none, 0, by rw [h, h2]; rfl, by rw [h2]; simp⟩
    · exact ⟨_, _, h, fun _ => ⟨g, rfl⟩⟩
  obtain ⟨n, hn⟩ : ∃ n, n = can.length := ⟨_, rfl⟩
  rw [hll] at ha7 hv7C ⊢
  rw [← hn] at ha7 hv7C ha8 hv8C hll hlc ⊢
  have hn2 : n ≤ 1024 := by
    rw [hlc]; split
    · rename_i h; simp [hasB] at h; exact h.2
    · omega
  have Hlc := Lib.hid hlc
  have Hll := Lib.hid hll
  have Hn := Lib.hid hn
  have Hcan := Lib.hid hcan
  have Hv7 := Lib.hid hv7C
  have Hv8 := Lib.hid hv8C
  clear hlc hll hn hcan hv7C hv8C
  obtain ⟨f0, f1, f2, f3, f4⟩ := HfC.out.1
  by_cases hin : 0 ≤ b ∧ b < n
  · obtain ⟨hb0, hbn'⟩ := hin
    obtain ⟨b, rfl⟩ := Int.eq_ofNat_of_zero_le hb0
    have hbn : b < n := by omega
    obtain ⟨g7, rfl⟩ := ha7 (by omega)
    obtain ⟨g8, rfl⟩ := ha8 (by omega)
    have hh : hasB code = true := by
      cases hh : hasB code
      · have := Hlc.out; rw [hh] at this; simp at this; omega
      · rfl
    have hcl : n = code.length := by have := Hlc.out; rw [if_pos hh] at this; exact this
    have hpos : 0 < code.length := by omega
    have Hcl := Lib.hid hcl
    have Hh := Lib.hid hh
    have HT := Lib.hid (Ht.out hh)
    have hcb := OwnBools.cell Hv8.out (k := b) (by rw [← Hn.out]; exact hbn)
    have hrb : can.getD b false = true ↔ Rch code (-1) b := by rw [Hcan.out]; exact reachL_get hh (by omega)
    have Hrb := Lib.hid hrb
    clear hh hcl hrb hb0 hbn'
    cases hx : can.getD b false
    · rw [hx] at hcb
      have hnr : ¬ Rch code (-1) b := fun h => by have := Hrb.out.2 h; rw [hx] at this; cases this
      have hlb := OwnInts.cell Hv7.out (k := b) (by rw [Hll.out]; exact hbn)
      rw [HT.out.none b (by rw [← Hcl.out]; exact hbn) (.inr hnr)] at hlb
      have Hd : Hid (domB code a b = false) := Bool.eq_false_iff.2 fun h => hnr ((domI_domB Hh.out (by rw [← Hcl.out]; exact hbn)).1 h).2.2.1
      have HlB : Hid (OwnInts wC 0 (.slice (some ⟨g7, 0, none⟩) n c7) L) := Hv7.out
      clear hx hnr
      go_wp2_with fail
      refine (dominates_any s vp regs words vc code a b _ (SliceIn.later Hc.out HfC.out.2)).mono ?_
      rintro e wD ⟨-, rfl, hbD⟩
      rw [Hd.out]
      have hg7 : g7 < wC.heap.size := (World.ownsRow.lt HlB.out g7 rfl).2
      have hlb2 := (hbD.cell (p := ⟨g7, b, none⟩) hg7).trans hlb
      have HbD : Hid (Below w.heap.size w wD) := HfC.out.2.trans (hbD.mono (by omega))
      clear hbD hlb hcb f0 f1 f2 f3 f4
      go_wp2_with fail
      go_ret
      exact ⟨rfl, HbD.out⟩
    · rw [hx] at hcb
      have hbr : Rch code (-1) b := Hrb.out.1 hx
      have hk1 : decide (n ≤ b) = false := by simp; omega
      have hk2 : decide ((b : Int) < 0) = false := by simp
      have Hbr := Lib.hid hbr
      clear hx hbr
      go_wp2_with fail
      go_loopg [9, 10, 11] n (fun g mv av iv wx => ∃ (i y : Nat) (m : Bool), g = n - i ∧ mv = .bool m ∧ av = .int .i64 (y : Int) ∧ iv = .int .i64 (i : Int) ∧ i + domCount code y ≤ n ∧ y < n ∧ Rch code (-1) y ∧ (DomI code a b ↔ m = true ∨ DomI code a y) ∧ wx = wC)
      case atStart => exact ⟨0, b, false, rfl, rfl, rfl, rfl, by have := domCount_le code b; rw [← Hcl.out] at this; omega, hbn, Hbr.out, by simp, rfl⟩
      case round =>
        obtain ⟨i, y, m, hg, rfl, rfl, rfl, hiy, hyn, hyr, hm, rfl⟩ := hrel
        have Hg := Lib.hid hg
        have Hiy := Lib.hid hiy
        have Hyr := Lib.hid hyr
        have Hm := Lib.hid hm
        have hin : i < n := by have := domCount_pos hpos hyr; omega
        clear hg hiy hyr hm
        by_cases hy0 : y = 0
        · have hq1 : ((y : Int) != 0) = false := by simp [hy0]
          have hl0 := OwnInts.cell Hv7.out (k := 0) (by rw [Hll.out]; omega)
          rw [HT.out.none 0 hpos (.inl rfl)] at hl0
          have hfin : DomI code a b ↔ m = true ∨ a = 0 := by
            rw [Hm.out, hy0]
            constructor
            · rintro (h | h)
              · exact .inl h
              · exact .inr (domI_zero h)
            · rintro (h | h)
              · exact .inl h
              · right; rw [h]; exact ⟨by decide, Dom.refl (Rch.start (by decide))⟩
          obtain ⟨d, hd⟩ : ∃ d, d = domB code a b := ⟨_, rfl⟩
          have hdm : d = true ↔ m = true ∨ a = 0 := by rw [hd, domI_domB Hh.out (by rw [← Hcl.out]; exact hbn), hfin]
          have Hd := Lib.hid hd
          have Hy0 := Lib.hid hy0
          clear hfin hd hy0
          have hde : d = (m || (a == 0)) := Bool.eq_iff_iff.2 (by rw [hdm]; simp)
          obtain ⟨t0, ht0⟩ : ∃ t0, t0 = (a == 0) := ⟨_, rfl⟩
          rw [← ht0] at hde
          have ht1 : (a == 0) = t0 := ht0.symm
          have Hde : Hid (domB code a b = (m || t0)) := by show _ = _; rw [← Hd.out]; exact hde
          clear ht0 hdm hde Hd
          by_cases hA : 0 ≤ a ∧ a < n
          · obtain ⟨hA1, hA2⟩ := hA
            obtain ⟨a, rfl⟩ := Int.eq_ofNat_of_zero_le hA1
            have han : a < n := by omega
            have hca := OwnBools.cell Hv8.out (k := a) (by rw [← Hn.out]; exact han)
            have hra : can.getD a false = true ↔ Rch code (-1) a := by rw [Hcan.out]; exact reachL_get Hh.out (by rw [← Hcl.out]; exact han)
            have hwb : (reachL code (a : Int)).getD b false = true ↔ Rch code (a : Int) b := reachL_get Hh.out (by rw [← Hcl.out]; exact hbn)
            have hwl : (reachL code (a : Int)).length = n := by rw [reachL_length, if_pos Hh.out, Hcl.out]
            have hdd : domB code a b = true ↔ Dom code a b := (domI_domB Hh.out (by rw [← Hcl.out]; exact hbn)).trans ⟨fun h => by simpa using h.2, fun h => ⟨by omega, by simpa using h⟩⟩
            have hg8 : g8 < wr.heap.size := (World.ownsRow.lt Hv8.out g8 rfl).2
            have Hw := Lib.hid (And.intro hra (And.intro hwb (And.intro hwl hdd)))
            obtain ⟨ca, hcae⟩ : ∃ ca, ca = can.getD a false := ⟨_, rfl⟩
            rw [← hcae] at hca
            have Hcae := Lib.hid hcae
            clear hA1 hA2 hra hwb hwl hdd hcae
            cases m
            all_goals
              cases t0
              all_goals
                go_wp2_with fail
                refine (dominates_any s vp regs words vc code (a : Int) b _ (SliceIn.later Hc.out HfC.out.2)).mono ?_
                rintro e wD ⟨-, rfl, hbD⟩
                rw [Hde.out]
                have HD : Hid (FnAt wD w.heap.size s vp regs words vc ∧ Below w.heap.size w wD) := ⟨HfC.out.1.later hbD hsC, HfC.out.2.trans (hbD.mono (by omega))⟩
                have hcaD := (hbD.cell (p := ⟨g8, a, none⟩) hg8).trans hca
                have hsD : wr.heap.size ≤ wD.heap.size := hbD.size
                clear hbD f0 f1 f2 f3 f4 hca
                obtain ⟨f0, f1, f2, f3, f4⟩ := HD.out.1
                go_wp2_with fail
                refine (without_any s vp regs words vc code (a : Int) _ Hlen.out (SliceIn.later Hc.out HD.out.2)).mono ?_
                rintro e wE ⟨v9, rfl, hv9, hbE⟩
                have HE : Hid (Below w.heap.size w wE) := HD.out.2.trans (hbE.mono (by omega))
                obtain ⟨g9, c9, rfl⟩ : ∃ g c, v9 = .slice (some ⟨g, 0, none⟩) n c := by
                  rcases hv9.form with ⟨_, h2⟩ | ⟨g, c, h, _⟩
                  · have := Hw.out.2.2.1; rw [h2] at this; simp at this; omega
                  · exact ⟨g, c, by rw [h, Hw.out.2.2.1]⟩
                have hcw := OwnBools.cell hv9 (k := b) (by rw [Hw.out.2.2.1]; exact hbn)
                have hcaE := (hbE.cell (p := ⟨g8, a, none⟩) (by show g8 < _; omega)).trans hcaD
                obtain ⟨z, hz⟩ : ∃ z, z = (reachL code (a : Int)).getD b false := ⟨_, rfl⟩
                rw [← hz] at hcw
                have Hz := Lib.hid hz
                clear hv9 hbE hcaD f0 f1 f2 f3 f4 hz
                by_cases hab : a = b
                · have hR : domB code a b = true := Hw.out.2.2.2.2 (by rw [hab]; exact Dom.refl Hbr.out)
                  rw [Hde.out] at hR
                  have hq : ((a : Int) == (b : Int)) = true := by simp [hab]
                  clear hab
                  first
                    | exact absurd hR (by decide)
                    | (clear hR
                       go_wp2_with fail
                       go_ret
                       exact ⟨rfl, HE.out⟩)
                · have hq : ((a : Int) == (b : Int)) = false := by simp; omega
                  cases ca
                  · have hR : domB code a b = false := Bool.eq_false_iff.2 fun h => by
                      have := Hw.out.1.2 (Hw.out.2.2.2.1 h).1
                      rw [← Hcae.out] at this; cases this
                    rw [Hde.out] at hR
                    clear hab
                    first
                      | exact absurd hR (by decide)
                      | (clear hR
                         go_wp2_with fail
                         go_ret
                         exact ⟨rfl, HE.out⟩)
                  · cases z
                    · have hR : domB code a b = true := Hw.out.2.2.2.2 ⟨Hw.out.1.1 Hcae.out.symm, Hbr.out, .inr fun h => by
                        have := Hw.out.2.1.2 h
                        rw [← Hz.out] at this; cases this⟩
                      rw [Hde.out] at hR
                      clear hab
                      first
                        | exact absurd hR (by decide)
                        | (clear hR
                           go_wp2_with fail
                           go_ret
                           exact ⟨rfl, HE.out⟩)
                    · have hR : domB code a b = false := Bool.eq_false_iff.2 fun h => by
                        rcases (Hw.out.2.2.2.1 h).2.2 with e | e
                        · exact hab e
                        · exact e (Hw.out.2.1.1 Hz.out.symm)
                      rw [Hde.out] at hR
                      clear hab
                      first
                        | exact absurd hR (by decide)
                        | (clear hR
                           go_wp2_with fail
                           go_ret
                           exact ⟨rfl, HE.out⟩)
          · have hR : domB code a b = false := Bool.eq_false_iff.2 fun h => by
              obtain ⟨_, h1, h2, _⟩ := domB_iff.1 h
              have := Hcl.out
              omega
            have hmt : m = false ∧ t0 = false := by
              have := Hde.out
              rw [hR] at this
              exact Bool.or_eq_false_iff.1 this.symm
            obtain ⟨rfl, rfl⟩ := hmt
            have HR := Lib.hid hR
            clear hR
            have hcs : a < 0 ∨ (0 ≤ a ∧ (n : Int) ≤ a) := by omega
            clear hA
            rcases hcs with hcs | ⟨hcs, hcs2⟩
            all_goals
              go_wp2_with fail
              refine (dominates_any s vp regs words vc code a b _ (SliceIn.later Hc.out HfC.out.2)).mono ?_
              rintro e wD ⟨-, rfl, hbD⟩
              rw [HR.out]
              have HD : Hid (Below w.heap.size w wD) := HfC.out.2.trans (hbD.mono (by omega))
              clear hbD f0 f1 f2 f3 f4
              go_wp2_with fail
              go_ret
              exact ⟨rfl, HD.out⟩
        · obtain ⟨p, e, p1, p2, p3, p4⟩ := domI_up (a := a) HT.out (y := y) (by rw [← Hcl.out]; exact hyn) hy0 Hyr.out
          have hq1 : ((y : Int) != 0) = true := by rw [bne_iff_ne]; omega
          have hly := OwnInts.cell Hv7.out (k := y) (by rw [Hll.out]; exact hyn)
          rw [e] at hly
          have hpn : p < n := by rw [Hcl.out]; exact p1
          have HP : Hid (i + 1 + domCount code p ≤ n ∧ Rch code (-1) p ∧ (DomI code a b ↔ (m || ((y : Int) == a)) = true ∨ DomI code a p)) := by
            refine ⟨by have := Hiy.out; omega, p2, ?_⟩
            rw [Hm.out, p4]
            simp only [Bool.or_eq_true, beq_iff_eq]
            constructor
            · rintro (h | h | h)
              · exact .inl (.inl h)
              · exact .inl (.inr h)
              · exact .inr h
            · rintro ((h | h) | h)
              · exact .inl h
              · exact .inr (.inl h)
              · exact .inr (.inr h)
          obtain ⟨t, ht⟩ : ∃ t, t = ((y : Int) == a) := ⟨_, rfl⟩
          have ht2 : ((y : Int) == a) = t := ht.symm
          rw [ht2] at HP
          clear ht e p1 p2 p3 p4 hy0
          cases m
          all_goals
            cases t
            all_goals
              go_wp2_with fail
              go_roundg (n - (i + 1))
              case measure => have := Hg.out; omega
              case rel => exact ⟨i + 1, p, _, rfl, rfl, rfl, by go_num, HP.out.1, hpn, HP.out.2.1, HP.out.2.2, rfl⟩
  · have Hd : Hid (domB code a b = false) := Bool.eq_false_iff.2 fun h => by
      obtain ⟨h1, _, _, h3, h4, _⟩ := domB_iff.1 h
      have := Hlc.out
      rw [if_pos h1] at this
      omega
    by_cases hb0 : 0 ≤ b
    · have hbn : (n : Int) ≤ b := by omega
      clear hin
      go_wp2_with fail
      refine (dominates_any s vp regs words vc code a b _ (SliceIn.later Hc.out HfC.out.2)).mono ?_
      rintro e wD ⟨-, rfl, hbD⟩
      rw [Hd.out]
      have HbD : Hid (Below w.heap.size w wD) := HfC.out.2.trans (hbD.mono (by omega))
      clear hbD f0 f1 f2 f3 f4
      go_wp2_with fail
      go_ret
      exact ⟨rfl, HbD.out⟩
    · have hb1 : b < 0 := by omega
      clear hin
      go_wp2_with fail
      refine (dominates_any s vp regs words vc code a b _ (SliceIn.later Hc.out HfC.out.2)).mono ?_
      rintro e wD ⟨-, rfl, hbD⟩
      rw [Hd.out]
      have HbD : Hid (Below w.heap.size w wD) := HfC.out.2.trans (hbD.mono (by omega))
      clear hbD f0 f1 f2 f3 f4
      go_wp2_with fail
      go_ret
      exact ⟨rfl, HbD.out⟩
end Go.Proofs.Ytggkeodoenhmoaa
