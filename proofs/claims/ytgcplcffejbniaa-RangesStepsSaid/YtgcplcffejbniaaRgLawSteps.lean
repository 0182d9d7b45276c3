/- ranges: the walk of RangesSteps. -/
import Derived.Test.YtgcplcffejbniaaRgAwk
import Derived.Test.YtgcplcffejbniaaRgLift
namespace Go.Proofs.Ytgcplcffejbniaa
open Go.RowKit Go.Maps

set_option maxRecDepth 100000 in
set_option maxHeartbeats 8000000 in
theorem rgLawSteps_any (W : World) (p : Pg) (vw vf : Value) (vp vb : Nat → Value) (fn : Int) (h : PgIn W p vw vf vp vb) (_ : p.near) (hrg : p.rng) (hk : in64 fn) : Calls Try.prog 5 #[pgV vw vf, .int .i64 fn] W (Gives (.bool true) W) := by
  obtain ⟨aw, cw, rfl, -⟩ := h.widen.row.form
  obtain ⟨a, cap, rfl, hc1, hc2⟩ := h.funcs.row.form
  obtain ⟨n, hn⟩ : ∃ n, n = p.funcs.length := ⟨_, rfl⟩
  obtain ⟨m, hm⟩ : ∃ m, m = p.widen.length := ⟨_, rfl⟩
  rw [← hn, ← hm] at h
  rw [← hn, ← hm]
  have HP := Lib.hid h
  have Hl := Lib.hid (And.intro hm hn)
  have Hrg := Lib.hid hrg
  have Hk := Lib.hid hk
  have hk2 : -9223372036854775808 ≤ fn ∧ fn ≤ 9223372036854775807 := hk
  obtain ⟨W1, hW1⟩ : ∃ W1, W1 = W.alloc (.cells #[.slice aw m cw, .slice a n cap] 26) := ⟨_, rfl⟩
  obtain ⟨B, hB⟩ : ∃ B, B = W.heap.size := ⟨_, rfl⟩
  have hb1 : Below W.heap.size W W1 := by rw [hW1]; exact (Below.refl _ _).alloc (Nat.le_refl _) _
  have c0 : W1.cell? ⟨B, 0, none⟩ = some (.slice aw m cw) := by rw [hW1, hB]; exact World.cell?_alloc_at _ _ _ _ rfl
  have c1 : W1.cell? ⟨B, 1, none⟩ = some (.slice a n cap) := by rw [hW1, hB]; exact World.cell?_alloc_at _ _ _ _ rfl
  have qB : B < W1.heap.size := by rw [hW1, hB]; simp
  have HW1 := Lib.hid (And.intro hW1 hB)
  have H1 := Lib.hid (And.intro hb1 (And.intro c0 c1))
  unfold pgV
  clear h hn hm hrg hk hW1 hB hb1 c0 c1
  go_enter Try.func5, Try.ntmps5
  go_upto_region 1 with (fail)
  rw [← HW1.out.1, ← HW1.out.2]
  go_wp2_with fail
  refine (rgAwake_any W1).mono ?_
  rintro e w2 ⟨rfl, hb2⟩
  have d0 := (hb2.cell (p := ⟨B, 0, none⟩) qB).trans H1.out.2.1
  have d1 := (hb2.cell (p := ⟨B, 1, none⟩) qB).trans H1.out.2.2
  have q2 : B < w2.heap.size := Nat.lt_of_lt_of_le qB hb2.size
  obtain ⟨G, hG⟩ : ∃ G, G = w2.heap.size := ⟨_, rfl⟩
  obtain ⟨W3, hW3⟩ : ∃ W3, W3 = w2.alloc (.cells #[.bool false, .bool true] 4) := ⟨_, rfl⟩
  have hb3 : Below w2.heap.size w2 W3 := by rw [hW3]; exact (Below.refl _ _).alloc (Nat.le_refl _) _
  have hg3 : ∀ j : Nat, j < 2 → W3.cell? ⟨G, j, none⟩ = some (.bool (decide (j = 1))) := fun j hj => by
    rw [hW3, hG, World.cell?_alloc_at _ _ _ _ rfl]
    rcases (by omega : j = 0 ∨ j = 1) with rfl | rfl <;> rfl
  have hGl : G < W3.heap.size := by rw [hW3, hG]; simp
  have c0 := (hb3.cell (p := ⟨B, 0, none⟩) q2).trans d0
  have c1 := (hb3.cell (p := ⟨B, 1, none⟩) q2).trans d1
  have H3 := Lib.hid (And.intro (H1.out.1.trans ((hb2.trans (hb3.mono hb2.size)).mono H1.out.1.size)) (And.intro c0 (And.intro c1 hg3)))
  have HW3 := Lib.hid (And.intro hW3 hG)
  have hB3 : B < W3.heap.size := block_lt_of_cell c0
  clear hb2 hb3 hW3 hG hg3 d0 d1 c0 c1
  go_upto_region 3 with (fail)
  go_wp2_with fail
  rw [← HW3.out.1, ← HW3.out.2]
  go_loopg [13] 2 (fun g iv wx => ∃ i : Nat, g = 2 - i ∧ iv = .int .i64 (i : Int) ∧ i ≤ 2 ∧ Below W3.heap.size W3 wx)
  case atStart => exact ⟨0, rfl, rfl, by omega, Below.refl _ _⟩
  case round =>
    obtain ⟨i, hg, rfl, hi, hO⟩ := hrel
    have Hg := Lib.hid hg
    have HO := Lib.hid hO
    clear hg
    by_cases hin : i < 2
    · obtain ⟨b, hb⟩ : ∃ b, b = decide (i = 1) := ⟨_, rfl⟩
      have hgi := (hO.cell (p := ⟨G, i, none⟩) hGl).trans (H3.out.2.2.2 i hin)
      rw [← hb] at hgi
      have c0 := (hO.cell (p := ⟨B, 0, none⟩) hB3).trans H3.out.2.1
      have c1 := (hO.cell (p := ⟨B, 1, none⟩) hB3).trans H3.out.2.2.1
      have hbW : Below W.heap.size W wr := H3.out.1.trans (hO.mono H3.out.1.size)
      have HbW := Lib.hid hbW
      have hBr : B < wr.heap.size := block_lt_of_cell c0
      clear hb hbW
      go_wp2_with fail
      refine (rgStraight_any p (.slice aw m cw) (.slice a n cap) vp vb fn b wr (HP.out.later HbW.out) Hrg.out Hk.out).mono ?_
      rintro e w4 ⟨rfl, hb4⟩
      obtain ⟨z, hz⟩ : ∃ z, z = p.straight fn b := ⟨_, rfl⟩
      rw [← hz]
      have Hz := Lib.hid hz
      have d0 := (hb4.cell (p := ⟨B, 0, none⟩) hBr).trans c0
      have d1 := (hb4.cell (p := ⟨B, 1, none⟩) hBr).trans c1
      have H4 := Lib.hid (And.intro (HbW.out.trans (hb4.mono HbW.out.size)) (HO.out.trans (hb4.mono HO.out.size)))
      have hB4 : B < w4.heap.size := block_lt_of_cell d0
      clear hz hb4 c0 c1 hgi hO
      cases z
      · clear d0 d1
        go_wp2_with fail
        go_roundg (2 - (i + 1))
        case measure => have := Hg.out; omega
        case rel => exact ⟨i + 1, rfl, by go_num, by omega, H4.out.2⟩
      · have hr0 : p.rfault.1 = 0 := by
          have h := Hz.out.symm
          unfold Pg.straight at h
          simp only [Bool.and_eq_true, decide_eq_true_eq] at h
          exact h.1
        have htr : p.straight fn true = true := by
          cases b
          · exact Pg.straight_mono Hz.out.symm
          · exact Hz.out.symm
        have Hr := Lib.hid (And.intro hr0 htr)
        have hfe := rgRun_faultE
        clear hr0 htr
        go_wp2_with fail
        refine (rgCheck_any p (.slice aw m cw) (.slice a n cap) vp vb w4 (HP.out.later H4.out.1) Hrg.out).mono ?_
        rintro e w5 ⟨rfl, hb5⟩
        obtain ⟨t, ht⟩ : ∃ t, t = p.rfault := ⟨_, rfl⟩
        have Ht := Lib.hid ht
        rw [← ht]
        obtain ⟨ea, eb, ec⟩ := t
        obtain rfl : ea = 0 := by
          have h := Hr.out.1
          rw [← ht] at h
          exact h
        unfold fltV
        have c0 := (hb5.cell (p := ⟨B, 0, none⟩) hB4).trans d0
        have c1 := (hb5.cell (p := ⟨B, 1, none⟩) hB4).trans d1
        have H5 := Lib.hid (And.intro (H4.out.1.trans (hb5.mono H4.out.1.size)) (H4.out.2.trans (hb5.mono H4.out.2.size)))
        have hB5 : B < w5.heap.size := block_lt_of_cell c0
        dsimp only
        clear ht hb5 d0 d1
        go_wp2_with fail
        refine (rgStraight_any p (.slice aw m cw) (.slice a n cap) vp vb fn true w5 (HP.out.later H5.out.1) Hrg.out Hk.out).mono ?_
        rintro e w6 ⟨rfl, hb6⟩
        rw [Hr.out.2]
        have d0 := (hb6.cell (p := ⟨B, 0, none⟩) hB5).trans c0
        have d1 := (hb6.cell (p := ⟨B, 1, none⟩) hB5).trans c1
        have H6 := Lib.hid (And.intro (H5.out.1.trans (hb6.mono H5.out.1.size)) (H5.out.2.trans (hb6.mono H5.out.2.size)))
        have hB6 : B < w6.heap.size := block_lt_of_cell d0
        clear hb6 c0 c1
        go_wp2_with fail
        refine (ncalls_any p (.slice aw m cw) (.slice a n cap) vp vb fn w6 (HP.out.later H6.out.1)).mono ?_
        rintro e w8 ⟨v8, rfl, ho8, hb8⟩
        obtain ⟨l, hl⟩ : ∃ l, l = p.ncalls fn := ⟨_, rfl⟩
        rw [← hl] at ho8
        obtain ⟨L, hL⟩ : ∃ L, L = l.length := ⟨_, rfl⟩
        have hrow8 := IntsIn.row (SliceIn.of_owns ho8)
        obtain ⟨a8, c8, hv8, hc8, hc8'⟩ := hrow8.form
        subst hv8
        rw [← hL] at hrow8 hc8 ⊢
        have hL62 : L ≤ 9223372036854775807 := by have : maxLen ≤ 9223372036854775807 := by decide
                                                  omega
        have Hrow8 := Lib.hid hrow8
        have HL := Lib.hid (And.intro hl hL)
        have e0 := (hb8.cell (p := ⟨B, 0, none⟩) hB6).trans d0
        have e1 := (hb8.cell (p := ⟨B, 1, none⟩) hB6).trans d1
        have H8 := Lib.hid (And.intro (H6.out.1.trans (hb8.mono H6.out.1.size)) (And.intro (H6.out.2.trans (hb8.mono H6.out.2.size)) (And.intro e0 e1)))
        have hB8 : B < w8.heap.size := block_lt_of_cell e0
        clear ho8 hl hL hrow8 hb8 d0 d1 e0 e1
        go_wp2_with fail
        go_loopg [36] L (fun gg jv wx => ∃ j : Nat, gg = L - j ∧ jv = .int .i64 (j : Int) ∧ j ≤ L ∧ Below w8.heap.size w8 wx)
        case atStart => exact ⟨0, rfl, rfl, Nat.zero_le _, Below.refl _ _⟩
        case round =>
          obtain ⟨j, hg2, rfl, hj, hbj⟩ := hrel
          have Hg2 := Lib.hid hg2
          have Hbj := Lib.hid hbj
          clear hg2
          by_cases hjL : j < L
          · obtain ⟨y, hy⟩ : ∃ y, l[j]? = some y := ⟨_, List.getElem?_eq_getElem (by rw [← HL.out.2]; exact hjL)⟩
            obtain ⟨b9, off9, rfl, hb9, hP9⟩ := Hrow8.out.at (i := j) hjL
            have hym : y ∈ p.ncalls fn := by rw [← HL.out.1]; exact List.mem_of_getElem? hy
            have hyk := ncalls_lt hym
            have hst := Pg.straight_calls Hz.out.symm hym
            have hyr : in64 y := by unfold in64; omega
            have hcy := (hbj.cell (p := ⟨b9, off9 + j * 1, none⟩) hb9).trans (hP9 y hy)
            rw [Nat.mul_one] at hcy
            have c0 := (hbj.cell (p := ⟨B, 0, none⟩) hB8).trans H8.out.2.2.1
            have c1 := (hbj.cell (p := ⟨B, 1, none⟩) hB8).trans H8.out.2.2.2
            have hbWj : Below W.heap.size W wr := H8.out.1.trans (hbj.mono H8.out.1.size)
            have Hy := Lib.hid (And.intro hst (And.intro hyr hbWj))
            clear hy hP9 hym hyk hst hyr hbWj hbj
            go_wp2_with fail
            refine (rgStraight_any p (.slice aw m cw) (.slice a n cap) vp vb y b wr (HP.out.later Hy.out.2.2) Hrg.out Hy.out.2.1).mono ?_
            rintro e w9 ⟨rfl, hb9'⟩
            rw [Hy.out.1]
            have Hb9 := Lib.hid (Hbj.out.trans (hb9'.mono Hbj.out.size))
            clear hb9' c0 c1 hcy
            go_wp2_with fail
            go_roundg (L - (j + 1))
            case measure => have := Hg2.out; omega
            case rel => exact ⟨j + 1, rfl, by go_num, hjL, Hb9.out⟩
          · obtain rfl : L = j := by omega
            have HE := Lib.hid (H8.out.2.1.trans (hbj.mono H8.out.2.1.size))
            clear hbj hjL
            go_wp2_with fail
            go_roundg (2 - (i + 1))
            case measure => have := Hg.out; omega
            case rel => exact ⟨i + 1, rfl, by go_num, by omega, HE.out⟩
    · obtain rfl : i = 2 := by omega
      clear hO hin
      go_wp2_with fail
      go_ret
      exact ⟨by rfl, H3.out.1.trans (HO.out.mono H3.out.1.size)⟩
end Go.Proofs.Ytgcplcffejbniaa
