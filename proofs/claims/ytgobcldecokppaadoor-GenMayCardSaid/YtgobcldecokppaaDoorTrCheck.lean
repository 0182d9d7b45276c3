/- tree.Check: what is wrong first with a program. -/
import Derived.Test.YtgobcldecokppaaDoorTrRCheck
namespace Go.Proofs.YtgobcldecokppaaDoor
open Go.RowKit

set_option maxRecDepth 100000 in
set_option maxHeartbeats 2000000 in
theorem check_any (p : Pg) (vw vf : Value) (vp vb : Nat → Value) (W : World) (h : PgIn W p vw vf vp vb) : Calls Tryd.prog 39 #[pgV vw vf] W (Gives (fltV p.fault) W) := by
  have HP := Lib.hid h
  obtain ⟨hw, hr, hpp, hbb⟩ := h
  have hwr := hw.row
  obtain ⟨aw, cw, rfl, hwc, hwc2⟩ := hwr.form
  obtain ⟨a, cap, rfl, hncap, hcap⟩ := hr.form
  obtain ⟨n, hn⟩ : ∃ n, n = p.funcs.length := ⟨_, rfl⟩
  obtain ⟨m, hm⟩ : ∃ m, m = p.widen.length := ⟨_, rfl⟩
  have hn62 : n ≤ 9223372036854775807 := by have : maxLen ≤ 9223372036854775807 := by decide
                                            omega
  have hm62 : m ≤ 9223372036854775807 := by have : maxLen ≤ 9223372036854775807 := by decide
                                            omega
  have Hwrow : Hid (RowOf W (.slice aw m cw) p.widen.length 1 (fun b o i => ∀ x, p.widen[i]? = some x → W.cell? ⟨b, o, none⟩ = some (.int .i64 x))) := by rw [hm]; exact hwr
  have Hl := Lib.hid (And.intro hm hn)
  have Hf := Lib.hid (And.intro hpp hbb)
  have Hrow : Hid (RowOf W (.slice a n cap) p.funcs.length 3 (fun b o i => ∀ x, p.funcs[i]? = some x → FnCells W b o x (vp i) (vb i))) := by rw [hn]; exact hr
  rw [← hn, ← hm] at HP
  rw [← hn, ← hm]
  rw [← hm] at hwc
  rw [← hn] at hncap
  obtain ⟨W1, hW1⟩ : ∃ W1, W1 = (W.alloc (.cells #[.slice aw m cw, .slice a n cap] 25)).alloc (.cells #[.int .i64 0, .int .i64 0, .int .i64 0] 32) := ⟨_, rfl⟩
  have hs1 : W1.heap.size = W.heap.size + 2 := by rw [hW1]; simp
  have hb1 : Below W.heap.size W W1 := by rw [hW1]; exact ((Below.refl _ _).alloc (Nat.le_refl _) _).alloc (by (try simp only [World.size_alloc]); (try simp only [size_set]); omega) _
  have hk1 : CkAt W1 W.heap.size (.slice aw m cw) (.slice a n cap) := by
    have q : (W.alloc (.cells #[.slice aw m cw, .slice a n cap] 25)).heap.size = W.heap.size + 1 := by simp
    have k : ∀ j, (((W.alloc (.cells #[.slice aw m cw, .slice a n cap] 25)).alloc (.cells #[.int .i64 0, .int .i64 0, .int .i64 0] 32)).cell? ⟨W.heap.size, j, none⟩) = (W.alloc (.cells #[.slice aw m cw, .slice a n cap] 25)).cell? ⟨W.heap.size, j, none⟩ :=
      fun j => ((Below.refl _ _).alloc (Nat.le_refl _) _).cell (p := ⟨W.heap.size, j, none⟩) (by show W.heap.size < _; omega)
    rw [hW1]
    exact ⟨(k 0).trans (World.cell?_alloc_at _ _ _ _ rfl), (k 1).trans (World.cell?_alloc_at _ _ _ _ rfl), World.cell?_alloc_at _ _ _ _ (by rw [q]), World.cell?_alloc_at _ _ _ _ (by rw [q]), World.cell?_alloc_at _ _ _ _ (by rw [q]),
      World.frozen?_alloc_at _ _ _ _ (by rw [q]), World.frozen?_alloc_at _ _ _ _ (by rw [q]), World.frozen?_alloc_at _ _ _ _ (by rw [q])⟩
  have HW1 := Lib.hid hW1
  obtain ⟨B, hB⟩ : ∃ B, B = W.heap.size := ⟨_, rfl⟩
  have hB0 : B = W.heap.size := hB
  have HB := Lib.hid hB
  unfold pgV
  clear hwr hw hr hpp hbb hn hm hW1 hB
  go_enter Tryd.func39, Tryd.ntmps39
  go_upto_region 1 with (fail)
  rw [← HW1.out, ← HB.out]
  rw [← hB0] at hk1
  clear hB0
  have H1 := Lib.hid (And.intro hb1 (And.intro hk1 hs1))
  clear hb1 hs1
  obtain ⟨c0, c1, r0, r1, r2, z0, z1, z2⟩ := hk1
  have q2 := block_lt_of_cell r0
  by_cases h16 : 16 < m
  · have Hres : Hid (p.fault = (3, 0, 0)) := by
      show _ = _
      have h : p.headErr = 3 := by unfold Pg.headErr; rw [if_pos (by rw [← Hl.out.1]; exact h16)]
      unfold Pg.fault; rw [h]; rfl
    go_wp2_with fail
    obtain ⟨w9, hw9⟩ : ∃ w9, w9 = ((W1.setCell ⟨B + 1, 0, none⟩ (.int .i64 3)).setCell ⟨B + 1, 1, none⟩ (.int .i64 0)).setCell ⟨B + 1, 2, none⟩ (.int .i64 0) := ⟨_, rfl⟩
    rw [← hw9]
    obtain ⟨d0, d1, d2, hO9⟩ := H1.out.2.1.answer (3, 0, 0) w9 hw9
    have HO9 := Lib.hid hO9
    clear hw9 hO9 c0 c1 r0 r1 r2 z0 z1 z2
    dsimp only at d0 d1 d2
    refine bodyPost_ret (by simp [results, Tryd.results39, go_sem, d0, d1, d2]; try rfl) rfl ?_
    exact ⟨by rw [Hres.out]; rfl, H1.out.1.trans (HO9.out.below (H1.out.1.size) fun _ e => by have := HB.out; omega)⟩
  · have H16 : Hid (¬ 16 < p.widen.length) := by show ¬ _; rw [← Hl.out.1]; exact h16
    have hm16 : m ≤ 16 := by omega
    clear h16
    go_wp2_with fail
    refine (containsI_any p.widen (.slice aw m cw) W1 (PgIn.later HP.out H1.out.1).widen).mono ?_
    rintro e w2 ⟨rfl, hw2⟩
    rw [← hw2]
    clear hw2
    obtain ⟨le, hle⟩ : ∃ z, z = leastB p.widen := ⟨_, rfl⟩
    rw [← hle]
    have Hle := Lib.hid hle
    clear hle
    cases le
    rotate_left 1
    · have Hres : Hid (p.fault = (1, 0, 0)) := by
        show _ = _
        have h : p.headErr = 1 := by unfold Pg.headErr; rw [if_neg H16.out, if_pos Hle.out.symm]
        unfold Pg.fault; rw [h]; rfl
      go_wp2_with fail
      obtain ⟨w9, hw9⟩ : ∃ w9, w9 = ((W1.setCell ⟨B + 1, 0, none⟩ (.int .i64 1)).setCell ⟨B + 1, 1, none⟩ (.int .i64 0)).setCell ⟨B + 1, 2, none⟩ (.int .i64 0) := ⟨_, rfl⟩
      rw [← hw9]
      obtain ⟨d0, d1, d2, hO9⟩ := H1.out.2.1.answer (1, 0, 0) w9 hw9
      have HO9 := Lib.hid hO9
      clear hw9 hO9 c0 c1 r0 r1 r2 z0 z1 z2
      dsimp only at d0 d1 d2
      refine bodyPost_ret (by simp [results, Tryd.results39, go_sem, d0, d1, d2]; try rfl) rfl ?_
      exact ⟨by rw [Hres.out]; rfl, H1.out.1.trans (HO9.out.below (H1.out.1.size) fun _ e => by have := HB.out; omega)⟩
    · go_wp2_with fail
      clear c0 c1 r0 r1 r2 z0 z1 z2
      go_loopg [3] m (fun g iv wx => ∃ j : Nat, g = m - j ∧ iv = .int .i64 ((j + 1 : Nat) : Int) ∧ j ≤ m ∧ (∀ (k : Nat) a b, k < j → p.widen[k]? = some a → p.widen[k + 1]? = some b → a < b) ∧ Below W1.heap.size W1 wx)
      case atStart => exact ⟨0, rfl, rfl, Nat.zero_le _, fun k a b h => by omega, Below.refl _ _⟩
      case round =>
        obtain ⟨j, hg, rfl, hj, hp, hO⟩ := hrel
        have HK := Lib.hid (And.intro hp hO)
        have Hg := Lib.hid hg
        have HC := Lib.hid (H1.out.2.1.later hO)
        have HW : Hid (Below W.heap.size W wr) := H1.out.1.trans (hO.mono H1.out.1.size)
        obtain ⟨c0, c1, r0, r1, r2, z0, z1, z2⟩ := HC.out
        have q3 := block_lt_of_cell r0
        clear hp hg hO
        by_cases hjn : j + 1 < m
        · obtain ⟨y, hy⟩ : ∃ y, p.widen[j]? = some y := ⟨_, List.getElem?_eq_getElem (by rw [← Hl.out.1]; omega)⟩
          obtain ⟨z, hz⟩ : ∃ y, p.widen[j + 1]? = some y := ⟨_, List.getElem?_eq_getElem (by rw [← Hl.out.1]; omega)⟩
          obtain ⟨b, off, rfl, hb, hP⟩ := Hwrow.out.at (i := j) (by rw [← Hl.out.1]; omega)
          obtain ⟨b', off', e', hb', hP'⟩ := Hwrow.out.at (i := j + 1) (by rw [← Hl.out.1]; omega)
          cases e'
          have hy1 := (HW.out.cell (p := ⟨b, off + j * 1, none⟩) hb).trans (hP y hy)
          have hz1 := (HW.out.cell (p := ⟨b, off + (j + 1) * 1, none⟩) hb).trans (hP' z hz)
          simp only [Nat.mul_one] at hy1 hz1
          have Hyz := Lib.hid (And.intro hy hz)
          clear hy hz hP hP'
          by_cases hlt : y < z
          · have e1 : ¬ z ≤ y := by omega
            go_wp2_with (go_quiet (fail))
            go_roundg (m - (j + 1))
            case measure => have := Hg.out; omega
            case rel => exact ⟨j + 1, rfl, by go_num, by omega, fun k a b hk ha hb => by
                by_cases e : k = j
                · subst e
                  rw [Hyz.out.1] at ha
                  rw [Hyz.out.2] at hb
                  cases ha; cases hb; exact hlt
                · exact HK.out.1 k a b (by omega) ha hb, below_drewN HK.out.2 _⟩
          · have e1 : z ≤ y := by omega
            have Hres : Hid (p.fault = (66, 0, 0)) := by
              show _ = _
              have h : p.headErr = 66 := by unfold Pg.headErr; rw [if_neg H16.out, if_neg (by rw [← Hle.out]; decide), if_pos (riseB_no Hyz.out.1 Hyz.out.2 hlt)]
              unfold Pg.fault; rw [h]; rfl
            go_upto_if 35 with (go_quiet (fail))
            obtain ⟨w6, hw6⟩ : ∃ w6, w6 = wr.drewN nq := ⟨_, rfl⟩
            rw [← hw6]
            have hb6 : Below wr.heap.size wr w6 := by rw [hw6]; exact below_draws _ _
            have HC6 := Lib.hid (HC.out.later hb6)
            have HW6 := Lib.hid (HW.out.trans (hb6.mono HW.out.size))
            clear hw6 hb6 c0 c1 r0 r1 r2 z0 z1 z2 hy1 hz1
            obtain ⟨c0, c1, r0, r1, r2, z0, z1, z2⟩ := HC6.out
            have q4 := block_lt_of_cell r0
            go_wp2_with fail
            obtain ⟨w9, hw9⟩ : ∃ w9, w9 = ((w6.setCell ⟨B + 1, 0, none⟩ (.int .i64 66)).setCell ⟨B + 1, 1, none⟩ (.int .i64 0)).setCell ⟨B + 1, 2, none⟩ (.int .i64 0) := ⟨_, rfl⟩
            rw [← hw9]
            obtain ⟨d0, d1, d2, hO9⟩ := HC6.out.answer (66, 0, 0) w9 hw9
            have HO9 := Lib.hid hO9
            clear hw9 hO9 c0 c1 r0 r1 r2 z0 z1 z2
            dsimp only at d0 d1 d2
            refine bodyPost_ret (by simp [results, Tryd.results39, go_sem, d0, d1, d2]; try rfl) rfl ?_
            exact ⟨by rw [Hres.out]; rfl, HW6.out.trans (HO9.out.below (HW6.out.size) fun _ e => by have := HB.out; omega)⟩
        · have Hrise : Hid (riseB p.widen = true) := riseB_all fun k a b ha hb => HK.out.1 k a b (by have := (List.getElem?_eq_some_iff.1 hb).1; have := Hl.out.1; omega) ha hb
          have Hh : Hid (p.headErr = if 32 < n ∨ 4096 < upto (Fn.count p.funcs) then 3 else 0) := by
            show _ = _
            unfold Pg.headErr
            rw [if_neg H16.out, if_neg (by rw [← Hle.out]; decide), if_neg (by rw [Hrise.out]; decide), ← Hl.out.2]
          by_cases h32 : 32 < n
          · have Hres : Hid (p.fault = (3, 0, 0)) := by
              show _ = _
              have h : p.headErr = 3 := by rw [Hh.out, if_pos (.inl h32)]
              unfold Pg.fault; rw [h]; rfl
            go_wp2_with fail
            obtain ⟨w9, hw9⟩ : ∃ w9, w9 = ((wr.setCell ⟨B + 1, 0, none⟩ (.int .i64 3)).setCell ⟨B + 1, 1, none⟩ (.int .i64 0)).setCell ⟨B + 1, 2, none⟩ (.int .i64 0) := ⟨_, rfl⟩
            rw [← hw9]
            obtain ⟨d0, d1, d2, hO9⟩ := HC.out.answer (3, 0, 0) w9 hw9
            have HO9 := Lib.hid hO9
            clear hw9 hO9 c0 c1 r0 r1 r2 z0 z1 z2
            dsimp only at d0 d1 d2
            refine bodyPost_ret (by simp [results, Tryd.results39, go_sem, d0, d1, d2]; try rfl) rfl ?_
            exact ⟨by rw [Hres.out]; rfl, HW.out.trans (HO9.out.below (HW.out.size) fun _ e => by have := HB.out; omega)⟩
          · have h32' : n ≤ 32 := by omega
            have hq : decide (32 < (n : Int)) = false := decide_eq_false (by omega)
            have H32 := Lib.hid h32
            clear h32
            go_wp2_with fail
            refine (nodes_any p (.slice aw m cw) (.slice a n cap) vp vb _ (PgIn.later HP.out HW.out)).mono ?_
            rintro e w5 ⟨rfl, hb5⟩
            have HW5 := Lib.hid (HW.out.trans (hb5.mono HW.out.size))
            have HC5 := Lib.hid (HC.out.later hb5)
            obtain ⟨nd, hnd⟩ : ∃ z, z = upto (Fn.count p.funcs) := ⟨_, rfl⟩
            rw [← hnd] at Hh ⊢
            have hle : nd ≤ 4097 := by rw [hnd]; exact upto_le _
            clear hb5 c0 c1 r0 r1 r2 z0 z1 z2 hnd
            obtain ⟨c0, c1, r0, r1, r2, z0, z1, z2⟩ := HC5.out
            have q4 := block_lt_of_cell r0
            by_cases h96 : 4096 < nd
            · have Hres : Hid (p.fault = (3, 0, 0)) := by
                show _ = _
                have h : p.headErr = 3 := by rw [Hh.out, if_pos (.inr h96)]
                unfold Pg.fault; rw [h]; rfl
              go_wp2_with fail
              obtain ⟨w9, hw9⟩ : ∃ w9, w9 = ((w5.setCell ⟨B + 1, 0, none⟩ (.int .i64 3)).setCell ⟨B + 1, 1, none⟩ (.int .i64 0)).setCell ⟨B + 1, 2, none⟩ (.int .i64 0) := ⟨_, rfl⟩
              rw [← hw9]
              obtain ⟨d0, d1, d2, hO9⟩ := HC5.out.answer (3, 0, 0) w9 hw9
              have HO9 := Lib.hid hO9
              clear hw9 hO9 c0 c1 r0 r1 r2 z0 z1 z2
              dsimp only at d0 d1 d2
              refine bodyPost_ret (by simp [results, Tryd.results39, go_sem, d0, d1, d2]; try rfl) rfl ?_
              exact ⟨by rw [Hres.out]; rfl, HW5.out.trans (HO9.out.below (HW5.out.size) fun _ e => by have := HB.out; omega)⟩
            · have Hhe : Hid (p.headErr = 0) := by show _ = _; rw [Hh.out, if_neg (fun h => h.elim H32.out h96)]
              have Hok : Hid (p.funcs.length ≤ 32 ∧ Fn.count p.funcs ≤ 4096) := Pg.head_ok Hhe.out
              have Hfl : Hid (p.fault = Fn.faults p.funcs 0) := by show _ = _; unfold Pg.fault; rw [if_neg (by rw [Hhe.out]; decide)]
              go_wp2_with fail
              clear c0 c1 r0 r1 r2 z0 z1 z2
              go_loopg [50] n (fun g iv wx => ∃ i : Nat, g = n - i ∧ iv = .int .i64 (i : Int) ∧ i ≤ n ∧ (∀ j y, j < i → p.funcs[j]? = some y → (y.fault (0 + j)).1 = 0) ∧ CkAt wx B (.slice aw m cw) (.slice a n cap) ∧ Below W.heap.size W wx)
              case atStart => exact ⟨0, rfl, rfl, Nat.zero_le _, fun j y h => by omega, HC5.out, HW5.out⟩
              case round =>
                obtain ⟨i, hg, rfl, hi, hp, hC, hB⟩ := hrel
                have HK := Lib.hid (And.intro hp (And.intro hC hB))
                have Hg := Lib.hid hg
                obtain ⟨c0, c1, r0, r1, r2, z0, z1, z2⟩ := hC
                have q3 := block_lt_of_cell r0
                clear hp hg
                by_cases hin : i < n
                · obtain ⟨x, hx⟩ : ∃ x, p.funcs[i]? = some x := ⟨_, List.getElem?_eq_getElem (by rw [← Hl.out.2]; exact hin)⟩
                  obtain ⟨b, off, rfl, hb, hP⟩ := Hrow.out.at (i := i) (by rw [← Hl.out.2]; exact hin)
                  have hfc := (hP x hx).later hB hb
                  have hrow := Hf.out.1 i x hx
                  have hsts := Hf.out.2 i x hx
                  obtain ⟨ap, cp, hvp, -⟩ := hrow.form
                  obtain ⟨ab, cb, hvb, -⟩ := hsts.form
                  have hchk := chks_any _ _ _ hsts
                  obtain ⟨np, hnp⟩ : ∃ n, n = x.params.length := ⟨_, rfl⟩
                  obtain ⟨nb, hnb⟩ : ∃ n, n = x.body.length := ⟨_, rfl⟩
                  rw [hvb, ← hnb] at hchk
                  rw [hvp, hvb, ← hnp, ← hnb] at hfc
                  have Hrp : Hid (RowOf W (.slice ap np cp) x.params.length 3 (fun b o k => ∀ y, x.params[k]? = some y → PmAt W b o y)) := by rw [hvp, ← hnp] at hrow; rw [← hnp]; exact hrow
                  have HX := Lib.hid (And.intro hx hchk)
                  obtain ⟨i0, i1, i2⟩ := hfc
                  obtain ⟨fc, hfe⟩ : ∃ z, z = x.face := ⟨_, rfl⟩
                  have Hfe := Lib.hid hfe
                  have q4 := block_lt_of_cell i0
                  obtain ⟨Y1, hY1⟩ : ∃ Y1, Y1 = wr.alloc (.cells #[.string x.name, .slice ap np cp, .slice ab nb cb] 40) := ⟨_, rfl⟩
                  have hbY : Below wr.heap.size wr Y1 := by rw [hY1]; exact (Below.refl _ _).alloc (Nat.le_refl _) _
                  have hfY : FnCells Y1 wr.heap.size 0 x (.slice ap np cp) (.slice ab nb cb) := by rw [hY1]; constructor <;> exact World.cell?_alloc_at _ _ _ _ rfl
                  have hsY : Y1.heap.size = wr.heap.size + 1 := by rw [hY1]; simp
                  have HY1 := Lib.hid hY1
                  have HKY := Lib.hid (HK.out.2.1.later hbY)
                  have HBY := Lib.hid (HK.out.2.2.trans (hbY.mono HK.out.2.2.size))
                  have HFY := Lib.hid (And.intro hfY hsY)
                  clear hP hx hrow hsts hchk hvp hvb hnp hnb hB hY1 hbY hfY hsY
                  go_upto_region 15 with (fail)
                  rw [← HY1.out]
                  clear i0 i1 i2 c0 c1 r0 r1 r2 z0 z1 z2
                  obtain ⟨i0, i1, i2⟩ := HFY.out.1
                  simp only [Nat.zero_add] at i1 i2
                  have qY := HFY.out.2
                  go_wp2_with fail
                  refine (head_any x (.slice ap np cp) ab nb cb Y1 (Hrp.out.imp HBY.out.size fun b o k hbl _ hp y hy => (hp y hy).later HBY.out hbl)).mono ?_
                  rintro e w3 ⟨rfl, hb3⟩
                  rw [← hfe]
                  have HK3 := Lib.hid (HKY.out.later hb3)
                  have HB3 := Lib.hid (HBY.out.trans (hb3.mono HBY.out.size))
                  have Hfc3 := Lib.hid (HFY.out.1.later hb3 (by omega))
                  have q5 := hb3.size
                  clear hb3 hfe i0 i1 i2
                  obtain ⟨c0, c1, r0, r1, r2, z0, z1, z2⟩ := HK3.out
                  have q6 := block_lt_of_cell r0
                  have q7 : wr.heap.size < w3.heap.size := by omega
                  clear qY
                  by_cases hf0 : fc = 0
                  · have Hfe0 : Hid (x.face = 0) := Hfe.out.symm.trans hf0
                    subst hf0
                    go_upto_region 19 with (fail)
                    obtain ⟨W4, hW4⟩ : ∃ W4, W4 = w3.alloc (.cells #[.int .i64 0, .int .i64 0] 120) := ⟨_, rfl⟩
                    obtain ⟨c, hc⟩ : ∃ c, c = w3.heap.size := ⟨_, rfl⟩
                    have hs4 : W4.heap.size = w3.heap.size + 1 := by rw [hW4]; simp
                    have hb4 : Below w3.heap.size w3 W4 := by rw [hW4]; exact (Below.refl _ _).alloc (Nat.le_refl _) _
                    have hK4 : KAt W4 c 0 0 := by rw [hW4, hc]; exact ⟨World.cell?_alloc_at _ _ _ _ rfl, World.cell?_alloc_at _ _ _ _ rfl, World.frozen?_alloc_at _ _ _ _ rfl, World.frozen?_alloc_at _ _ _ _ rfl⟩
                    rw [← hW4, ← hc]
                    have HK4 := Lib.hid (And.intro hK4 (HK3.out.later hb4))
                    have HB4 := Lib.hid (HB3.out.trans (hb4.mono HB3.out.size))
                    have hfc4 := Hfc3.out.later hb4 (by omega)
                    have q7 : W.heap.size ≤ c := by have := HB3.out.size; omega
                    have q8 : B + 1 < c := by rw [hc]; exact q6
                    clear hW4 hb4 hK4 hc hs4 c0 c1 r0 r1 r2 z0 z1 z2
                    obtain ⟨c0, c1, r0, r1, r2, z0, z1, z2⟩ := HK4.out.2
                    obtain ⟨i0, i1, i2⟩ := hfc4
                    simp only [Nat.zero_add] at i1 i2
                    go_wp2_with fail
                    refine (HX.out.2 W4 c 0 1 HB4.out q7 HK4.out.1 (by omega) (by have h1 := Fn.count_take HX.out.1; have h2 := Fn.count_le (l := p.funcs) (i + 1); have := Hok.out.2; omega) (by omega) (by omega)).mono ?_
                    rintro e w5 ⟨rfl, hK5, hO5⟩
                    obtain ⟨ee, hee⟩ : ∃ z, z = (St.chks x.body 1).2 := ⟨_, rfl⟩
                    obtain ⟨ea, hea⟩ : ∃ z : Int, z = ((St.chks x.body 1).1 : Int) := ⟨_, rfl⟩
                    rw [← hee, ← hea, Int.zero_add] at hK5
                    rw [← hee]
                    have Hee := Lib.hid (And.intro hee hea)
                    have hC5 : CkAt w5 B (.slice aw m cw) (.slice (some ⟨b, off, none⟩) n cap) := by
                      have k := fun blk j (hbl : blk < c) => hO5.cell (p := ⟨blk, j, none⟩) (by show blk < _; have := HK4.out.1.lt; omega) (by show ¬ blk = c; omega)
                      have kf := fun blk j (hbl : blk < c) => hO5.frozen (p := ⟨blk, j, none⟩) (by show blk < _; have := HK4.out.1.lt; omega) (by show ¬ blk = c; omega)
                      have h := HK4.out.2
                      exact ⟨(k _ _ (by omega)).trans h.c0, (k _ _ (by omega)).trans h.c1, (k _ _ (by omega)).trans h.r0, (k _ _ (by omega)).trans h.r1, (k _ _ (by omega)).trans h.r2, (kf _ _ (by omega)).trans h.z0, (kf _ _ (by omega)).trans h.z1, (kf _ _ (by omega)).trans h.z2⟩
                    have HK5 := Lib.hid (And.intro hK5 hC5)
                    have HB5 : Hid (Below W.heap.size W w5) := HB4.out.trans (hO5.below HB4.out.size fun _ e => by omega)
                    have j0 := hK5.c0
                    have j1 := hK5.c1
                    clear hee hea hK5 hC5 hO5 i0 i1 i2 c0 c1 r0 r1 r2 z0 z1 z2
                    by_cases he0 : ee = 0
                    · have Hnext : Hid ((x.fault (0 + i)).1 = 0) := by
                        show _ = _
                        unfold Fn.fault
                        rw [if_neg (by rw [Hfe0.out]; decide), if_neg (by rw [← Hee.out.1, he0]; decide)]
                      have hq : decide (ee = 0) = true := decide_eq_true he0
                      rw [hq]
                      clear hq he0
                      go_wp2_with fail
                      go_roundg (n - (i + 1))
                      case measure => have := Hg.out; omega
                      case rel => exact ⟨i + 1, rfl, by go_num, hin, fun j y hj hy => by
                          by_cases e : j = i
                          · subst e
                            rw [HX.out.1] at hy
                            cases hy; exact Hnext.out
                          · exact HK.out.1 j y (by omega) hy, HK5.out.2, HB5.out⟩
                    · have hq : decide (ee = 0) = false := decide_eq_false he0
                      have Hres : Hid (p.fault = (ee, (i : Int), ea)) := by
                        show _ = _
                        have h : x.fault (0 + i) = (ee, (i : Int), ea) := by unfold Fn.fault; rw [if_neg (by rw [Hfe0.out]; decide), ← Hee.out.1, if_pos he0, Nat.zero_add, Hee.out.2]
                        rw [Hfl.out, Fn.faults_hit HX.out.1 HK.out.1 (by rw [h]; exact he0), h]
                      rw [hq]
                      clear hq he0
                      go_upto_region 20 with (fail)
                      go_still_tail 10, (by kernel_rfl)
                      change wpList _ _ _ _ _ w5.drew
                      have hbd : Below w5.heap.size w5 w5.drew := (Below.refl _ _).drew
                      have HKd := Lib.hid (HK5.out.2.later hbd)
                      have hkd := HK5.out.1.later hbd
                      have HBd := Lib.hid (HB5.out.trans (hbd.mono HB5.out.size))
                      have k0 := hkd.c0
                      have k1 := hkd.c1
                      obtain ⟨w6, hw6⟩ : ∃ w6, w6 = w5.drew := ⟨_, rfl⟩
                      rw [← hw6] at HKd HBd k0 k1 ⊢
                      clear hbd hw6 hkd j0 j1
                      obtain ⟨c0, c1, r0, r1, r2, z0, z1, z2⟩ := HKd.out
                      have q10 := block_lt_of_cell r0
                      go_wp2_with fail
                      obtain ⟨w9, hw9⟩ : ∃ w9, w9 = ((w6.setCell ⟨B + 1, 0, none⟩ (.int .i64 ee)).setCell ⟨B + 1, 1, none⟩ (.int .i64 (i : Int))).setCell ⟨B + 1, 2, none⟩ (.int .i64 ea) := ⟨_, rfl⟩
                      rw [← hw9]
                      obtain ⟨d0, d1, d2, hO9⟩ := HKd.out.answer (ee, (i : Int), ea) w9 hw9
                      have HO9 := Lib.hid hO9
                      clear hw9 hO9 c0 c1 r0 r1 r2 z0 z1 z2
                      dsimp only at d0 d1 d2
                      refine bodyPost_ret (by simp [results, Tryd.results39, go_sem, d0, d1, d2]; try rfl) rfl ?_
                      exact ⟨by rw [Hres.out]; rfl, HBd.out.trans (HO9.out.below (HBd.out.size) fun _ e => by have := HB.out; omega)⟩
                  · have hq : (fc != 0) = true := by simp [hf0]
                    have Hres : Hid (p.fault = (fc, (i : Int), 0)) := by
                      show _ = _
                      have h : x.fault (0 + i) = (fc, (i : Int), 0) := by unfold Fn.fault; rw [← Hfe.out, if_pos hf0, Nat.zero_add]
                      rw [Hfl.out, Fn.faults_hit HX.out.1 HK.out.1 (by rw [h]; exact hf0), h]
                    go_wp2_with fail
                    obtain ⟨w9, hw9⟩ : ∃ w9, w9 = ((w3.setCell ⟨B + 1, 0, none⟩ (.int .i64 fc)).setCell ⟨B + 1, 1, none⟩ (.int .i64 (i : Int))).setCell ⟨B + 1, 2, none⟩ (.int .i64 0) := ⟨_, rfl⟩
                    rw [← hw9]
                    obtain ⟨d0, d1, d2, hO9⟩ := HK3.out.answer (fc, (i : Int), 0) w9 hw9
                    have HO9 := Lib.hid hO9
                    clear hw9 hO9 c0 c1 r0 r1 r2 z0 z1 z2
                    dsimp only at d0 d1 d2
                    refine bodyPost_ret (by simp [results, Tryd.results39, go_sem, d0, d1, d2]; try rfl) rfl ?_
                    exact ⟨by rw [Hres.out]; rfl, HB3.out.trans (HO9.out.below (HB3.out.size) fun _ e => by have := HB.out; omega)⟩
                · obtain rfl : n = i := by omega
                  have Hres : Hid (p.fault = (0, 0, 0)) := by
                    show _ = _
                    rw [Hfl.out]
                    exact Fn.faults_none fun j y hy => HK.out.1 j y (by rw [Hl.out.2]; exact (List.getElem?_eq_some_iff.1 hy).1) hy
                  clear hin hB
                  go_wp2_with fail
                  obtain ⟨w9, hw9⟩ : ∃ w9, w9 = ((wr.setCell ⟨B + 1, 0, none⟩ (.int .i64 0)).setCell ⟨B + 1, 1, none⟩ (.int .i64 0)).setCell ⟨B + 1, 2, none⟩ (.int .i64 0) := ⟨_, rfl⟩
                  rw [← hw9]
                  obtain ⟨d0, d1, d2, hO9⟩ := HK.out.2.1.answer (0, 0, 0) w9 hw9
                  have HO9 := Lib.hid hO9
                  clear hw9 hO9 c0 c1 r0 r1 r2 z0 z1 z2
                  dsimp only at d0 d1 d2
                  refine bodyPost_ret (by simp [results, Tryd.results39, go_sem, d0, d1, d2]; try rfl) rfl ?_
                  exact ⟨by rw [Hres.out]; rfl, HK.out.2.2.trans (HO9.out.below (HK.out.2.2.size) fun _ e => by have := HB.out; omega)⟩
end Go.Proofs.YtgobcldecokppaaDoor
