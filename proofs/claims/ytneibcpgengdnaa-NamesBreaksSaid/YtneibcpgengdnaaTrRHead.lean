/- R2's look at a program's thresholds and counts. -/
import Derived.Test.YtneibcpgengdnaaTrWid
namespace Go.Proofs.Ytneibcpgengdnaa
open Go.RowKit

set_option maxRecDepth 100000 in
set_option maxHeartbeats 2000000 in
theorem rhead_any (p : Pg) (vw vf : Value) (vp vb : Nat → Value) (W : World) (h : PgIn W p vw vf vp vb) : Calls Try.prog 42 #[pgV vw vf] W (Gives (.int .i64 p.headErr) W) := by
  have HP := Lib.hid h
  obtain ⟨hw, hr, -, -⟩ := h
  have hwr := hw.row
  obtain ⟨aw, cw, rfl, hwc, hwc2⟩ := hwr.form
  obtain ⟨a, cap, rfl, hncap, hcap⟩ := hr.form
  obtain ⟨n, hn⟩ : ∃ n, n = p.funcs.length := ⟨_, rfl⟩
  obtain ⟨m, hm⟩ : ∃ m, m = p.widen.length := ⟨_, rfl⟩
  have hn62 : n ≤ 9223372036854775807 := by have : maxLen ≤ 9223372036854775807 := by decide
                                            omega
  have hm62 : m ≤ 9223372036854775807 := by have : maxLen ≤ 9223372036854775807 := by decide
                                            omega
  have Hl := Lib.hid (And.intro hm hn)
  have Hrow : Hid (RowOf W (.slice aw m cw) p.widen.length 1 (fun b o i => ∀ x, p.widen[i]? = some x → W.cell? ⟨b, o, none⟩ = some (.int .i64 x))) := by rw [hm]; exact hwr
  rw [← hn, ← hm] at HP
  rw [← hn, ← hm]
  rw [← hm] at hwc
  rw [← hn] at hncap
  obtain ⟨W1, hW1⟩ : ∃ W1, W1 = W.alloc (.cells #[.slice aw m cw, .slice a n cap] 26) := ⟨_, rfl⟩
  have hs1 : W1.heap.size = W.heap.size + 1 := by rw [hW1]; simp
  have hb1 : Below W.heap.size W W1 := by rw [hW1]; exact (Below.refl _ _).alloc (Nat.le_refl _) _
  have c0 : W1.cell? ⟨W.heap.size, 0, none⟩ = some (.slice aw m cw) := by rw [hW1]; exact World.cell?_alloc_at _ _ _ _ rfl
  have c1 : W1.cell? ⟨W.heap.size, 1, none⟩ = some (.slice a n cap) := by rw [hW1]; exact World.cell?_alloc_at _ _ _ _ rfl
  have H1 := Lib.hid (And.intro hb1 (And.intro c0 (And.intro c1 hs1)))
  have HW1 := Lib.hid hW1
  obtain ⟨B, hB⟩ : ∃ B, B = W.heap.size := ⟨_, rfl⟩
  rw [← hB] at c0 c1
  have HB := Lib.hid hB
  unfold pgV
  clear hw hr hwr hn hm hs1 hb1 hW1 hB
  go_enter Try.func42, Try.ntmps42
  go_upto_region 1 with (fail)
  rw [← HW1.out, ← HB.out]
  by_cases h16 : 16 < m
  · have Hres : Hid (p.headErr = 3) := by show _ = _; unfold Pg.headErr; rw [if_pos (by rw [← Hl.out.1]; exact h16)]
    go_wp2_with fail
    go_ret
    exact ⟨by rw [Hres.out]; rfl, H1.out.1⟩
  · have H16 : Hid (¬ 16 < p.widen.length) := by show ¬ _; rw [← Hl.out.1]; exact h16
    have hm16 : m ≤ 16 := by omega
    clear h16
    go_wp2_with fail
    go_loopg [3] m (fun g iv wx => ∃ i : Nat, g = m - i ∧ iv = .int .i64 (i : Int) ∧ i ≤ m ∧ leastB (p.widen.take i) = false ∧ wx = W1)
    case atStart => exact ⟨0, rfl, rfl, Nat.zero_le _, rfl, rfl⟩
    case round =>
      obtain ⟨i, hg, rfl, hi, hp, rfl⟩ := hrel
      have HK := Lib.hid hp
      have Hg := Lib.hid hg
      clear hp hg
      by_cases hin : i < m
      · obtain ⟨y, hy⟩ : ∃ y, p.widen[i]? = some y := ⟨_, List.getElem?_eq_getElem (by rw [← Hl.out.1]; exact hin)⟩
        obtain ⟨b, off, rfl, hb, hP⟩ := Hrow.out.at (i := i) (by rw [← Hl.out.1]; exact hin)
        have hcs := (H1.out.1.cell (p := ⟨b, off + i * 1, none⟩) hb).trans (hP y hy)
        have Hy := Lib.hid hy
        simp only [Nat.mul_one] at hcs
        clear hy hP
        by_cases hz : y = -9223372036854775808
        · have Hz : Hid ((y == leastI) = true) := by show _ = _; simp [leastI, hz]
          have Hres : Hid (p.headErr = 1) := by show _ = _; unfold Pg.headErr; rw [if_neg H16.out, if_pos (leastB_hit Hy.out Hz.out)]
          subst hz
          go_wp2_with fail
          go_ret
          exact ⟨by rw [Hres.out]; rfl, H1.out.1⟩
        · have Hz : Hid ((y == leastI) = false) := by show _ = _; simp [leastI, hz]
          have hq2 : (y == -9223372036854775808) = false := by simp [hz]
          go_wp2_with fail
          go_roundg (m - (i + 1))
          case measure => have := Hg.out; omega
          case rel => exact ⟨i + 1, rfl, by go_num, hin, by rw [leastB_take Hy.out, HK.out, Hz.out]; rfl, rfl⟩
      · obtain rfl : m = i := by omega
        have Hleast : Hid (leastB p.widen = false) := by
          show _ = _
          have h := HK.out
          rw [List.take_of_length_le (by rw [← Hl.out.1]; exact Nat.le_refl _)] at h
          exact h
        clear hin
        obtain ⟨V, hV⟩ : ∃ V : World, V = wr := ⟨_, rfl⟩
        subst hV
        go_wp2_with fail
        clear c0 c1
        go_loopg [4] m (fun g iv wx => ∃ j : Nat, g = m - j ∧ iv = .int .i64 ((j + 1 : Nat) : Int) ∧ j ≤ m ∧ (∀ (k : Nat) a b, k < j → p.widen[k]? = some a → p.widen[k + 1]? = some b → a < b) ∧ Below V.heap.size V wx)
        case atStart => exact ⟨0, rfl, rfl, Nat.zero_le _, fun k a b h => by omega, Below.refl _ _⟩
        case round =>
          obtain ⟨j, hg, rfl, hj, hp, hO⟩ := hrel
          have HK := Lib.hid (And.intro hp hO)
          have Hg := Lib.hid hg
          have q0 := H1.out.2.2.2
          have c0 := (hO.cell (p := ⟨W.heap.size, 0, none⟩) (by show W.heap.size < _; omega)).trans H1.out.2.1
          have c1 := (hO.cell (p := ⟨W.heap.size, 1, none⟩) (by show W.heap.size < _; omega)).trans H1.out.2.2.1
          rw [← HB.out] at c0 c1
          clear hp hg q0
          by_cases hjn : j + 1 < m
          · obtain ⟨y, hy⟩ : ∃ y, p.widen[j]? = some y := ⟨_, List.getElem?_eq_getElem (by rw [← Hl.out.1]; omega)⟩
            obtain ⟨z, hz⟩ : ∃ y, p.widen[j + 1]? = some y := ⟨_, List.getElem?_eq_getElem (by rw [← Hl.out.1]; omega)⟩
            obtain ⟨b, off, rfl, hb, hP⟩ := Hrow.out.at (i := j) (by rw [← Hl.out.1]; omega)
            obtain ⟨b', off', e', hb', hP'⟩ := Hrow.out.at (i := j + 1) (by rw [← Hl.out.1]; omega)
            cases e'
            have hW := H1.out.1.trans (hO.mono H1.out.1.size)
            have hy1 := (hW.cell (p := ⟨b, off + j * 1, none⟩) hb).trans (hP y hy)
            have hz1 := (hW.cell (p := ⟨b, off + (j + 1) * 1, none⟩) hb).trans (hP' z hz)
            simp only [Nat.mul_one] at hy1 hz1
            have Hyz := Lib.hid (And.intro hy hz)
            have HW := Lib.hid hW
            clear hy hz hP hP' hW hO
            by_cases hlt : y < z
            · have e1 : ¬ z ≤ y := by omega
              go_wp2_with (go_quiet (fail))
              go_roundg (m - (j + 1))
              case measure => have := Hg.out; omega
              case rel => exact ⟨j + 1, rfl, by go_num, by omega, fun k a b hk ha hb => by
                  by_cases e : k = j
                  · subst e
                    rw [Hyz.out.1] at ha
                    rw [Hyz.out.2] at hb
                    cases ha; cases hb; exact hlt
                  · exact HK.out.1 k a b (by omega) ha hb, below_drewN HK.out.2 _⟩
            · have e1 : z ≤ y := by omega
              have Hres : Hid (p.headErr = 66) := by show _ = _; unfold Pg.headErr; rw [if_neg H16.out, if_neg (by rw [Hleast.out]; decide), if_pos (riseB_no Hyz.out.1 Hyz.out.2 hlt)]
              go_wp2_with (go_quiet (fail))
              go_ret
              exact ⟨by rw [Hres.out]; rfl, below_drewN HW.out _⟩
          · have Hrise : Hid (riseB p.widen = true) := riseB_all fun k a b ha hb => HK.out.1 k a b (by have := (List.getElem?_eq_some_iff.1 hb).1; have := Hl.out.1; omega) ha hb
            have HW : Hid (Below W.heap.size W wr) := H1.out.1.trans (hO.mono H1.out.1.size)
            have Hh : Hid (p.headErr = if 32 < n ∨ 4096 < upto (Fn.count p.funcs) then 3 else 0) := by
              show _ = _
              unfold Pg.headErr
              rw [if_neg H16.out, if_neg (by rw [Hleast.out]; decide), if_neg (by rw [Hrise.out]; decide), ← Hl.out.2]
            clear hO
            by_cases h32 : 32 < n
            · have Hres : Hid (p.headErr = 3) := by show _ = _; rw [Hh.out, if_pos (.inl h32)]
              go_wp2_with fail
              go_ret
              exact ⟨by rw [Hres.out]; rfl, HW.out⟩
            · have h32' : n ≤ 32 := by omega
              have hq : decide (32 < (n : Int)) = false := decide_eq_false (by omega)
              have H32 := Lib.hid h32
              clear h32
              go_wp2_with fail
              refine (rnodes_any p (.slice aw m cw) (.slice a n cap) vp vb _ (PgIn.later HP.out HW.out)).mono ?_
              rintro e w5 ⟨rfl, hb5⟩
              have HW5 := Lib.hid (HW.out.trans (hb5.mono HW.out.size))
              obtain ⟨nd, hnd⟩ : ∃ z, z = upto (Fn.count p.funcs) := ⟨_, rfl⟩
              rw [← hnd] at Hh ⊢
              have hle : nd ≤ 4097 := by rw [hnd]; exact upto_le _
              clear hb5 c0 c1 hnd
              by_cases h96 : 4096 < nd
              · have Hres : Hid (p.headErr = 3) := by show _ = _; rw [Hh.out, if_pos (.inr h96)]
                go_wp2_with fail
                go_ret
                exact ⟨by rw [Hres.out]; rfl, HW5.out⟩
              · have Hres : Hid (p.headErr = 0) := by show _ = _; rw [Hh.out, if_neg (fun h => h.elim H32.out h96)]
                go_wp2_with fail
                go_ret
                exact ⟨by rw [Hres.out]; rfl, HW5.out⟩
end Go.Proofs.Ytneibcpgengdnaa
