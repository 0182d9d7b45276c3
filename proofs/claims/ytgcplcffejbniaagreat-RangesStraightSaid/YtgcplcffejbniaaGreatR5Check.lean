/- R5.Check. -/
import Derived.Test.YtgcplcffejbniaaGreatR5AllW
import Derived.Test.YtgcplcffejbniaaGreatN4Check
import Derived.Test.YtgcplcffejbniaaGreatNmCut
namespace Go.Proofs.YtgcplcffejbniaaGreat
open Go.RowKit Go.Maps

theorem Pg.chks_of {p : Pg} (h : p.fault.1 = 0) {i : Nat} {f : Fn} (hf : p.funcs[i]? = some f) : (St.chks f.body 1).2 = 0 := by
  unfold Pg.fault at h
  by_cases h0 : p.headErr = 0
  · rw [if_neg (by rw [h0]; decide)] at h
    have h3 := Fn.faults_all h i f hf
    unfold Fn.fault at h3
    by_cases hf0 : f.face = 0
    · rw [if_neg (by rw [hf0]; decide)] at h3
      by_cases hc : (St.chks f.body 1).2 = 0
      · exact hc
      · rw [if_pos hc] at h3; exact absurd h3 hc
    · rw [if_pos hf0] at h3; exact absurd h3 hf0
  · rw [if_pos h0] at h; exact absurd h h0
theorem parK5_take {l : List Pm} {j : Nat} {y : Pm} (h : l[j]? = some y) : parK (l.take (j + 1)) = parK (l.take j) ++ [(y.name, 1)] := by
  rw [take_next h]; simp [parK]
theorem parK5_length (l : List Pm) : (parK l).length = l.length := by simp [parK]
theorem emptyB5_next {l : List Pm} {j : Nat} {y : Pm} (h : l[j]? = some y) : emptyB (l.take (j + 1)) = (emptyB (l.take j) || decide (y.hi < y.lo)) := by
  unfold emptyB; rw [take_next h]; simp
theorem emptyB5_stop {l : List Pm} {j : Nat} {y : Pm} (h : l[j]? = some y) (hlo : y.hi < y.lo) : emptyB l = true := by
  unfold emptyB; rw [List.any_eq_true]; exact ⟨y, List.mem_of_getElem? h, decide_eq_true hlo⟩
set_option maxRecDepth 100000 in
set_option maxHeartbeats 8000000 in
theorem r5check_any (p : Pg) (vw vf : Value) (vp vb : Nat → Value) (W : World) (h : PgIn W p vw vf vp vb) : Calls Tryz.prog 7 #[pgV vw vf] W (Gives (fltV p.rfault) W) := by
  obtain ⟨hw, hr, hpp, hbb⟩ := id h
  obtain ⟨aw, cw, rfl, hwc, hwc2⟩ := hw.row.form
  obtain ⟨a, cap, rfl, hncap, hcap⟩ := hr.form
  obtain ⟨n, hn⟩ : ∃ n, n = p.funcs.length := ⟨_, rfl⟩
  obtain ⟨m, hm⟩ : ∃ m, m = p.widen.length := ⟨_, rfl⟩
  have hn62 : n ≤ 9223372036854775807 := by have : maxLen ≤ 9223372036854775807 := by decide
                                            omega
  have Hl := Lib.hid (And.intro hm hn)
  have Hf := Lib.hid (And.intro hpp hbb)
  have Hrow : Hid (RowOf W (.slice a n cap) p.funcs.length 3 (fun b o i => ∀ x, p.funcs[i]? = some x → FnCells W b o x (vp i) (vb i))) := by rw [hn]; exact hr
  rw [← hn, ← hm] at h
  have HP := Lib.hid h
  have HFn := Lib.hid h.funcs
  rw [← hn, ← hm]
  rw [← hn] at hncap
  obtain ⟨W1, hW1⟩ : ∃ W1, W1 = (W.alloc (.cells #[.slice aw m cw, .slice a n cap] 25)).alloc (.cells #[.int .i64 0, .int .i64 0, .int .i64 0] 29) := ⟨_, rfl⟩
  have hs1 : W1.heap.size = W.heap.size + 2 := by rw [hW1]; simp
  have hb1 : Below W.heap.size W W1 := by rw [hW1]; exact ((Below.refl _ _).alloc (Nat.le_refl _) _).alloc (by (try simp only [World.size_alloc]); (try simp only [size_set]); omega) _
  have hk1 : CkAt W1 W.heap.size (.slice aw m cw) (.slice a n cap) := by
    have q : (W.alloc (.cells #[.slice aw m cw, .slice a n cap] 25)).heap.size = W.heap.size + 1 := by simp
    have k : ∀ j, (((W.alloc (.cells #[.slice aw m cw, .slice a n cap] 25)).alloc (.cells #[.int .i64 0, .int .i64 0, .int .i64 0] 29)).cell? ⟨W.heap.size, j, none⟩) = (W.alloc (.cells #[.slice aw m cw, .slice a n cap] 25)).cell? ⟨W.heap.size, j, none⟩ :=
      fun j => ((Below.refl _ _).alloc (Nat.le_refl _) _).cell (p := ⟨W.heap.size, j, none⟩) (by show W.heap.size < _; omega)
    rw [hW1]
    exact ⟨(k 0).trans (World.cell?_alloc_at _ _ _ _ rfl), (k 1).trans (World.cell?_alloc_at _ _ _ _ rfl), World.cell?_alloc_at _ _ _ _ (by rw [q]), World.cell?_alloc_at _ _ _ _ (by rw [q]), World.cell?_alloc_at _ _ _ _ (by rw [q]),
      World.frozen?_alloc_at _ _ _ _ (by rw [q]), World.frozen?_alloc_at _ _ _ _ (by rw [q]), World.frozen?_alloc_at _ _ _ _ (by rw [q])⟩
  have HW1 := Lib.hid hW1
  obtain ⟨B, hB⟩ : ∃ B, B = W.heap.size := ⟨_, rfl⟩
  have HB := Lib.hid hB
  have hBW : W.heap.size ≤ B := by omega
  have hBW2 : B ≤ W.heap.size := by omega
  unfold pgV
  rw [← hB] at hk1
  have H1 := Lib.hid (And.intro hb1 hk1)
  clear h hw hr hpp hbb hn hm hW1 hB hb1 hs1
  go_enter Tryz.func7, Tryz.ntmps7
  go_upto_region 1 with (fail)
  rw [← HW1.out, ← HB.out]
  obtain ⟨c0, c1, r0, r1, r2, z0, z1, z2⟩ := hk1
  go_wp2_with fail
  refine (r4check_any p (.slice aw m cw) (.slice a n cap) vp vb W1 (HP.out.later H1.out.1)).mono ?_
  rintro e w2 ⟨rfl, hb2⟩
  have hk2 := H1.out.2.later hb2
  have hbb2 := H1.out.1.trans (hb2.mono H1.out.1.size)
  obtain ⟨t0, ht0⟩ : ∃ t, t = p.nfault := ⟨_, rfl⟩
  rw [← ht0]
  have Ht0 := Lib.hid ht0
  obtain ⟨ea, eb, ec⟩ := t0
  unfold fltV
  obtain ⟨W3, hW3⟩ : ∃ W3, W3 = w2.alloc (.cells #[.int .i64 ea, .int .i64 eb, .int .i64 ec] 29) := ⟨_, rfl⟩
  obtain ⟨D, hD⟩ : ∃ D, D = w2.heap.size := ⟨_, rfl⟩
  have hs3 : W3.heap.size = D + 1 := by rw [hW3, hD]; simp
  have hb3 : Below w2.heap.size w2 W3 := by rw [hW3]; exact (Below.refl _ _).alloc (Nat.le_refl _) _
  have d0 : W3.cell? ⟨D, 0, none⟩ = some (.int .i64 ea) := by rw [hW3, hD]; exact World.cell?_alloc_at _ _ _ _ rfl
  have d1 : W3.cell? ⟨D, 1, none⟩ = some (.int .i64 eb) := by rw [hW3, hD]; exact World.cell?_alloc_at _ _ _ _ rfl
  have d2 : W3.cell? ⟨D, 2, none⟩ = some (.int .i64 ec) := by rw [hW3, hD]; exact World.cell?_alloc_at _ _ _ _ rfl
  have hK3 := hk2.later hb3
  have hB3 := hbb2.trans (hb3.mono hbb2.size)
  have HW3 := Lib.hid (And.intro hW3 hD)
  have HK3 := Lib.hid (And.intro hK3 hB3)
  have q3 : D < W3.heap.size := by omega
  have q3b : B + 1 < D := by have := block_lt_of_cell hk2.r0; rw [hD]; exact this
  clear c0 c1 r0 r1 r2 z0 z1 z2 hb2 hk2 hbb2 ht0 hW3 hD hs3 hb3 hB3
  go_upto_region 2 with (fail)
  rw [← HW3.out.1, ← HW3.out.2]
  obtain ⟨c0, c1, r0, r1, r2, z0, z1, z2⟩ := hK3
  have q4 : B + 1 < W3.heap.size := block_lt_of_cell r0
  by_cases h0 : ea = 0
  · subst h0
    have hfl : p.fault.1 = 0 := by
      by_cases h : p.fault.1 = 0
      · exact h
      · have := Pg.nfault_bad h
        rw [← Ht0.out] at this
        exact absurd (by rw [← this]) h
    have hn0 : p.nfault.1 = 0 := by rw [← Ht0.out]
    have hgood := Pg.good hfl
    have Hgood := Lib.hid hgood
    have Hchk : Hid (∀ (i : Nat) (x : Fn), p.funcs[i]? = some x → (St.chks x.body 1).2 = 0) := fun i x hx => Pg.chks_of hfl hx
    have Hright : Hid (∀ (i : Nat) (x : Fn), p.funcs[i]? = some x → x.name ∉ gAt p.funcs i ∧ twiceB x.params [] = false ∧ (St.nchks (parK x.params) (gAt p.funcs i) 0 x.body).2 = 0) := fun i x hx => Fn.right (Pg.nfault_all hfl hn0 i x hx)
    have Hnf : Hid (p.rfault = Fn.rfaults [] p.funcs 0) := by show _ = _; unfold Pg.rfault; rw [if_neg (by rw [hn0]; decide)]
    have hn32 : n ≤ 32 := by rw [Hl.out.2]; exact hgood.1
    clear hgood hfl hn0
    go_wp2_with fail
    clear c0 c1 r0 r1 r2 z0 z1 z2 d0 d1 d2
    go_loopg [4] n (fun g iv wx => ∃ i : Nat, g = n - i ∧ iv = .int .i64 (i : Int) ∧ i ≤ n ∧ (∀ j y, j < i → p.funcs[j]? = some y → (y.rfault ([] ++ p.funcs.take j) (0 + j)).1 = 0) ∧ CkAt wx B (.slice aw m cw) (.slice a n cap) ∧ Below W.heap.size W wx)
    case atStart => exact ⟨0, rfl, rfl, Nat.zero_le _, fun j y h => by omega, HK3.out.1, HK3.out.2⟩
    case round =>
      obtain ⟨i, hg, rfl, hi, hp, hC, hO⟩ := hrel
      obtain ⟨V0, hV0⟩ : ∃ V : World, V = wr := ⟨_, rfl⟩
      subst hV0
      have HK := Lib.hid (And.intro hp (And.intro hC hO))
      have Hg := Lib.hid hg
      obtain ⟨c0, c1, r0, r1, r2, z0, z1, z2⟩ := hC
      have q5 : B + 1 < V0.heap.size := block_lt_of_cell r0
      clear hp hg
      by_cases hin : i < n
      · obtain ⟨x, hx⟩ : ∃ x, p.funcs[i]? = some x := ⟨_, List.getElem?_eq_getElem (by rw [← Hl.out.2]; exact hin)⟩
        obtain ⟨b, off, rfl, hb, hP⟩ := Hrow.out.at (i := i) (by rw [← Hl.out.2]; exact hin)
        have hfc0 := hP x hx
        have hrow := Hf.out.1 i x hx
        have hsts := Hf.out.2 i x hx
        have hxg := Hgood.out.2 i x hx
        have Hxr := Lib.hid (Hright.out i x hx)
        obtain ⟨ap, cp, hvp, hpc1, hpc2⟩ := hrow.form
        obtain ⟨ab, cb, hvb, -⟩ := hsts.form
        rw [hvp] at hfc0 hrow
        rw [hvb] at hfc0 hsts
        obtain ⟨np, hnp⟩ : ∃ n, n = x.params.length := ⟨_, rfl⟩
        obtain ⟨nb, hnb⟩ : ∃ n, n = x.body.length := ⟨_, rfl⟩
        rw [← hnp] at hfc0 hpc1
        rw [← hnb] at hfc0 hsts
        have Hrp : Hid (RowOf W (.slice ap np cp) x.params.length 3 (fun b o k => ∀ y, x.params[k]? = some y → PmAt W b o y)) := by rw [← hnp] at hrow; rw [← hnp]; exact hrow
        have hnp8 : np ≤ 8 := by rw [hnp]; exact hxg.few
        have Hxg := Lib.hid hxg
        have HX := Lib.hid (And.intro hx (And.intro hsts hnp))
        have Hfc := Lib.hid (And.intro hfc0 hb)
        have hall := all5_any p.funcs (.slice (some ⟨b, off, none⟩) n cap) vp vb x.body (.slice ab nb cb) W HFn.out hsts
        have Hall := Lib.hid hall
        obtain ⟨r, hr⟩ : ∃ r, r = x.rfault (p.funcs.take i) i := ⟨_, rfl⟩
        have Hr : Hid (r = x.rfault ([] ++ p.funcs.take i) (0 + i)) := by show _ = _; rw [hr, List.nil_append, Nat.zero_add]
        have Hrr : Hid (r = x.rfault (p.funcs.take i) i) := hr
        have Hbad : Hid (r.1 ≠ 0 → p.rfault = r) := fun h => by rw [Hnf.out, Fn.rfaults_hit HX.out.1 HK.out.1 (by rw [← Hr.out]; exact h), ← Hr.out]
        obtain ⟨W6, hW6⟩ : ∃ W6, W6 = V0.alloc (.cells #[.slice aw m cw, .slice (some ⟨b, off, none⟩) n cap, .slice none 0 0, .int .i64 0, .int .i64 0] 56) := ⟨_, rfl⟩
        obtain ⟨c, hc⟩ : ∃ c, c = V0.heap.size := ⟨_, rfl⟩
        have hb6 : Below V0.heap.size V0 W6 := by rw [hW6]; exact (Below.refl _ _).alloc (Nat.le_refl _) _
        have hk6 : W5At W6 c (.slice aw m cw) (.slice (some ⟨b, off, none⟩) n cap) (.slice none 0 0) [] 0 0 := by
          rw [hW6, hc]
          exact ⟨World.cell?_alloc_at _ _ _ _ rfl, World.cell?_alloc_at _ _ _ _ rfl, World.cell?_alloc_at _ _ _ _ rfl, World.cell?_alloc_at _ _ _ _ rfl, World.cell?_alloc_at _ _ _ _ rfl, fun j _ => World.frozen?_alloc_at _ _ _ _ rfl, World.ownsRow_nil _ _ _ _, by simp⟩
        have H6 := Lib.hid (And.intro hb6 hk6)
        have HW6 := Lib.hid (And.intro hW6 hc)
        have hVW := hO.size
        have qc : V0.heap.size ≤ c := by omega
        clear hx hb hP hrow hsts hxg hvp hvb hpc1 hpc2 hnp hnb hr hW6 hc hb6 hk6 hfc0 hall
        go_upto_region 8 with (fail)
        rw [← HW6.out.2, ← HW6.out.1]
        go_wp2_with fail
        clear c0 c1 r0 r1 r2 z0 z1 z2
        have hO0 := hO
        clear hO
        go_loopg [6] np (fun gg jv wx => ∃ (j : Nat) (kvj : Value), gg = np - j ∧ jv = .int .i64 (j : Int) ∧ j ≤ np ∧ emptyB (x.params.take j) = false ∧ W5At wx c (.slice aw m cw) (.slice (some ⟨b, off, none⟩) n cap) kvj (parK (x.params.take j)) 0 0 ∧ Below V0.heap.size V0 wx)
        case atStart => exact ⟨0, _, rfl, rfl, Nat.zero_le _, rfl, H6.out.2, H6.out.1⟩
        case round =>
          obtain ⟨j, kvj, hg2, rfl, hj, hem, hkj, hbj⟩ := hrel
          have HJ := Lib.hid (And.intro hem (And.intro hkj hbj))
          have Hg2 := Lib.hid hg2
          have hbWj : Below W.heap.size W wr := HK.out.2.2.trans (hbj.mono hVW)
          have HbWj := Lib.hid hbWj
          have qj := hbj.size
          have hck := HK.out.2.1.later hbj
          have Hck := Lib.hid hck
          have c1 := hck.c1
          obtain ⟨g0, g1, g2⟩ := Hfc.out.1.later hbWj Hfc.out.2
          have Hlen : Hid ((parK (x.params.take j)).length ≤ 90000) := by show _ ≤ _; rw [parK5_length]; simp; omega
          clear hem hg2 hbj hck g0
          by_cases hjn : j < np
          · --<A
            obtain ⟨y, hy⟩ : ∃ y, x.params[j]? = some y := ⟨_, List.getElem?_eq_getElem (by rw [← HX.out.2.2]; exact hjn)⟩
            obtain ⟨by_, oy, rfl, hby, hPy⟩ := Hrp.out.at (i := j) (by rw [← HX.out.2.2]; exact hjn)
            obtain ⟨k0, k1, k2⟩ := (hPy y hy).later hbWj hby
            obtain ⟨W8, hW8⟩ : ∃ W8, W8 = wr.alloc (.cells #[.string y.name, .int .i64 y.lo, .int .i64 y.hi] 37) := ⟨_, rfl⟩
            obtain ⟨Y, hY⟩ : ∃ D, D = wr.heap.size := ⟨_, rfl⟩
            have hb8 : Below wr.heap.size wr W8 := by rw [hW8]; exact (Below.refl _ _).alloc (Nat.le_refl _) _
            have hp8 : PmAt W8 Y 0 y := by rw [hW8, hY]; constructor <;> exact World.cell?_alloc_at _ _ _ _ rfl
            have qY : Y < W8.heap.size := by rw [hW8, hY]; simp
            obtain ⟨a6, cap6, hkv6, -⟩ := hkj.known.form
            have hlj : (parK (x.params.take j)).length = j := by rw [parK5_length, List.length_take, ← HX.out.2.2]; omega
            rw [hlj] at hkv6
            subst hkv6
            have HnotK : Hid (¬ (Value.slice a6 j cap6).ownBlock = some Y) := fun e => by have h1 := (HJ.out.2.1.own Y e).2; omega
            have H8 := Lib.hid (And.intro (hkj.later hb8) (And.intro hp8 (And.intro qY hb8)))
            have HW8 := Lib.hid (And.intro hW8 hY)
            have Hy := Lib.hid hy
            clear hy hPy hby hbWj hkj hW8 hY hb8 hlj
            go_upto_region 12 with (fail)
            rw [← HW8.out.2, ← HW8.out.1]
            clear k0 k1 k2 c1 g1 g2
            obtain ⟨k0, k1, k2⟩ := hp8
            simp only [Nat.zero_add] at k1 k2
            by_cases hlo : y.hi < y.lo
            · have hq1 : decide (y.hi < y.lo) = true := decide_eq_true hlo
              have Hres : Hid (p.rfault = (40, (i : Int), 0)) := by
                show _ = _
                have h : r = (40, (i : Int), 0) := by rw [Hrr.out]; unfold Fn.rfault; rw [if_pos (emptyB5_stop Hy.out hlo)]
                rw [Hbad.out (by rw [h]; show (40 : Int) ≠ 0; decide), h]
              have HA8 : Hid (Below V0.heap.size V0 W8) := HJ.out.2.2.trans (H8.out.2.2.2.mono qj)
              have HC8 := Lib.hid (HK.out.2.1.later HA8.out)
              obtain ⟨c0, c1, r0, r1, r2, z0, z1, z2⟩ := HC8.out
              clear hlo
              go_wp2_with fail
              obtain ⟨w9, hw9⟩ : ∃ w9, w9 = ((W8.setCell ⟨B + 1, 0, none⟩ (.int .i64 40)).setCell ⟨B + 1, 1, none⟩ (.int .i64 (i : Int))).setCell ⟨B + 1, 2, none⟩ (.int .i64 0) := ⟨_, rfl⟩
              rw [← hw9]
              obtain ⟨e0, e1, e2, hO9⟩ := HC8.out.answer (40, (i : Int), 0) w9 hw9
              have HO9 := Lib.hid hO9
              clear hw9 hO9 c0 c1 r0 r1 r2 z0 z1 z2 k0 k1 k2
              dsimp only at e0 e1 e2
              refine bodyPost_ret (by simp [results, Tryz.results7, go_sem, e0, e1, e2]; try rfl) rfl ?_
              exact ⟨by rw [Hres.out]; rfl, (HK.out.2.2.trans (HA8.out.mono hVW)).trans (HO9.out.below (Nat.le_trans hVW HA8.out.size) fun _ e => by omega)⟩
            · have hq1 : decide (y.hi < y.lo) = false := decide_eq_false hlo
              have Hlo := Lib.hid hlo
              clear hlo
              go_upto_region 14 with (fail)
              refine wp_region_heldZ (S := fun w => w.cell? ⟨c, 2, none⟩ = some (.slice a6 j cap6) ∧ w.cell? ⟨Y, 0, none⟩ = some (.string y.name)) (z := 12) rfl ?_
              change wpAnyZ _ _ _ _ _ _ _ _ _ W8.drew
              obtain ⟨W0, hW0⟩ : ∃ W0, W0 = W8.drew := ⟨_, rfl⟩
              rw [← hW0]
              have hb0 : Below W8.heap.size W8 W0 := by rw [hW0]; exact (Below.refl _ _).drew
              have Hb : Hid (W0.cell? ⟨c, 2, none⟩ = some (.slice a6 j cap6) ∧ W0.cell? ⟨Y, 0, none⟩ = some (.string y.name)) := ⟨(hb0.cell (p := ⟨c, 2, none⟩) H8.out.1.in).trans H8.out.1.c2, (hb0.cell (p := ⟨Y, 0, none⟩) H8.out.2.2.1).trans H8.out.2.1.c0⟩
              have HF0 := Lib.hid hb0
              clear hb0 hW0 k0 k1 k2
              refine wpAnyZ_take (i := 0) (by simp only [List.getElem?_toArray, List.getElem?_cons_zero]; rfl) (by kernel_rfl) (by kernel_rfl) (by kernel_rfl) (by kernel_rfl) (by intro _ _ _ h; exact h) (Or.inl ⟨by rfl, fun w hw => by (have k0 := hw.1; have k1 := hw.2; go_simp; try rfl)⟩) Hb.out ?_
              refine wpAnyZ_take (i := 1) (by simp only [List.getElem?_toArray, List.getElem?_cons_succ, List.getElem?_cons_zero]; rfl) (by kernel_rfl) (by kernel_rfl) (by kernel_rfl) (by kernel_rfl) (by intro _ _ _ h; exact h) (Or.inl ⟨by rfl, fun w hw => by (have k0 := hw.1; have k1 := hw.2; go_simp; try rfl)⟩) Hb.out ?_
              go_frame
              refine wpAnyZ_take (i := 2) (by simp only [List.getElem?_toArray, List.getElem?_cons_succ, List.getElem?_cons_zero]; rfl) (by kernel_rfl) (by kernel_rfl) (by kernel_rfl) (by kernel_rfl) (by intro _ _ _ h; exact h) (Or.inl ⟨by rfl, fun w hw => by (have k0 := hw.1; have k1 := hw.2; go_simp; try rfl)⟩) Hb.out ?_
              refine wpAnyZ_take (i := 3) (by simp only [List.getElem?_toArray, List.getElem?_cons_succ, List.getElem?_cons_zero]; rfl) (by kernel_rfl) (by kernel_rfl) (by kernel_rfl) (by kernel_rfl) (by intro _ _ _ h; exact h) (Or.inl ⟨by rfl, fun w hw => by (have k0 := hw.1; have k1 := hw.2; go_simp; try rfl)⟩) Hb.out ?_
              go_frame
              refine wpAnyZ_take (i := 4) (by simp only [List.getElem?_toArray, List.getElem?_cons_succ, List.getElem?_cons_zero]; rfl) (by kernel_rfl) (by kernel_rfl) (by kernel_rfl) (by kernel_rfl) (by intro _ _ _ h; exact h) (Or.inl ⟨by rfl, fun w hw => by (have k0 := hw.1; have k1 := hw.2; go_simp; try rfl)⟩) Hb.out ?_
              refine wpAnyZ_take (i := 5) (by simp only [List.getElem?_toArray, List.getElem?_cons_succ, List.getElem?_cons_zero]; rfl) (by kernel_rfl) (by kernel_rfl) (by kernel_rfl) (by kernel_rfl) (by intro _ _ _ h; exact h) (Or.inl ⟨by rfl, fun w hw => by (have k0 := hw.1; have k1 := hw.2; go_simp; try rfl)⟩) Hb.out ?_
              go_frame
              refine wpAnyZ_take (i := 6) (by simp only [List.getElem?_toArray, List.getElem?_cons_succ, List.getElem?_cons_zero]; rfl) (by kernel_rfl) (by kernel_rfl) (by kernel_rfl) (by kernel_rfl) (by intro _ _ _ h; exact h) (Or.inl ⟨by rfl, fun w hw => by (have k0 := hw.1; have k1 := hw.2; go_simp; try rfl)⟩) Hb.out ?_
              refine wpAnyZ_take (i := 7) (by simp only [List.getElem?_toArray, List.getElem?_cons_succ, List.getElem?_cons_zero]; rfl) (by kernel_rfl) (by kernel_rfl) (by kernel_rfl) (by kernel_rfl) (by intro _ _ _ h; exact h) (Or.inl ⟨by rfl, fun w hw => by (have k0 := hw.1; have k1 := hw.2; go_simp; try rfl)⟩) Hb.out ?_
              go_frame
              refine wpAnyZ_next (i := 8) (by kernel_rfl) (by simp only [List.getElem?_toArray, List.getElem?_cons_succ, List.getElem?_cons_zero]; rfl) (fun Kc hKc => ?_)
              go_simp
              obtain ⟨Z, hZ⟩ : ∃ Z, Z = W0.heap.size := ⟨_, rfl⟩
              obtain ⟨W7, hW7⟩ : ∃ w : World, w = W0.alloc (.cells #[.string y.name, .int .u8 112] 58) := ⟨_, rfl⟩
              rw [← hZ, ← hW7]
              have hb7 : Below W0.heap.size W0 W7 := by rw [hW7]; exact (Below.refl _ _).alloc (Nat.le_refl _) _
              have HZ : Hid ((W7.cell? ⟨Z, 0, none⟩ = some (.string y.name) ∧ W7.cell? ⟨Z, 1, none⟩ = some (.int .u8 112)) ∧ Z < W7.heap.size) := ⟨⟨by rw [hW7]; exact World.cell?_alloc_at _ _ _ _ hZ, by rw [hW7]; exact World.cell?_alloc_at _ _ _ _ hZ⟩, by rw [hW7, hZ]; simp⟩
              have HF7 : Hid (Below W8.heap.size W8 W7) := HF0.out.trans (hb7.mono HF0.out.size)
              have HK7 : Hid (OwnVars W7 (c + 1) (.slice a6 j cap6) (parK (x.params.take j))) := (H8.out.1.later HF7.out).known
              have q7 : c < W7.heap.size := Nat.lt_of_lt_of_le H8.out.1.in HF7.out.size
              clear hb7 hZ hW7
              refine hKc.out _ _ (fun _ => ⟨(HF7.out.cell (p := ⟨c, 2, none⟩) H8.out.1.in).trans H8.out.1.c2, (HF7.out.cell (p := ⟨Y, 0, none⟩) H8.out.2.2.1).trans H8.out.2.1.c0⟩) ?_
              clear hKc Kc
              try go_frame
              refine wpAnyZ_next (i := 9) (by kernel_rfl) (by simp only [List.getElem?_toArray, List.getElem?_cons_succ, List.getElem?_cons_zero]; rfl) (fun Kc hKc => ?_)
              rw [if_pos (by rfl)]
              refine append5_wp _ _ rfl (c + 1) (.slice a6 j cap6) (parK (x.params.take j)) rfl HK7.out y.name 1 112 rfl Z rfl HZ.out (Nat.le_trans Hlen.out (by decide)) q7 ?_
              intro v4 W4 hown4 hg4 hfr4
              have HG := Lib.hid (H8.out.1.grow (k := 1) (by decide) HF7.out hown4 hg4 hfr4)
              obtain ⟨a4, n4, hv4, -⟩ := hown4.form
              obtain ⟨m4, hm4⟩ : ∃ m, m = (parK (x.params.take j) ++ [(y.name, (1 : Int))]).length := ⟨_, rfl⟩
              rw [← hm4] at hv4
              subst hv4
              clear hm4 hown4 hg4 hfr4
              have HS4 : Hid (W4.cell? ⟨c, 2, none⟩ = some (.slice a6 j cap6) ∧ W4.cell? ⟨Y, 0, none⟩ = some (.string y.name)) := ⟨HG.out.2.1.1, (HG.out.1.cell (p := ⟨Y, 0, none⟩) H8.out.2.2.1 HnotK.out).trans H8.out.2.1.c0⟩
              refine hKc.out _ _ (fun _ => HS4.out) ?_
              clear hKc Kc
              try go_frame
              refine wpAnyZ_next (i := 10) (by kernel_rfl) (by simp only [List.getElem?_toArray, List.getElem?_cons_succ, List.getElem?_cons_zero]; rfl) (fun Kc hKc => ?_)
              go_simp
              refine hKc.out _ _ (fun _ => HS4.out) ?_
              clear hKc Kc
              try go_frame
              refine wpAnyZ_next (i := 11) (by kernel_rfl) (by simp only [List.getElem?_toArray, List.getElem?_cons_succ, List.getElem?_cons_zero]; rfl) (fun Kc hKc => ?_)
              go_simp
              refine hKc.out _ _ (fun _ => HS4.out) ?_
              clear hKc Kc
              try go_frame
              refine wpAnyZ_next (i := 12) (by kernel_rfl) (by simp only [List.getElem?_toArray, List.getElem?_cons_succ, List.getElem?_cons_zero]; rfl) (fun Kc hKc => ?_)
              have z4 := HG.out.2.1.1
              have z5 := HG.out.2.1.2
              go_simp
              refine hKc.out _ _ (fun h => absurd rfl h) ?_
              clear hKc Kc z4 z5
              refine wpAnyZ_done (by kernel_rfl) ?_ _
              go_wp2_with fail
              go_roundg (np - (j + 1))
              case measure => have := Hg2.out; omega
              case rel =>
                refine ⟨j + 1, _, rfl, by go_num, hjn, ?_, by rw [parK5_take Hy.out]; exact HG.out.2.2.1, ?_⟩
                · rw [emptyB5_next Hy.out, HJ.out.1, decide_eq_false (by have := Hlo.out; omega)]; rfl
                · exact HJ.out.2.2.trans ((H8.out.2.2.2.mono qj).trans (HG.out.2.2.2.oth.below (by have := H8.out.2.2.2.size; omega) fun k hk => by have := (H8.out.1.wt hk).1; omega))
            --A>
          · --<B
            obtain rfl : np = j := by omega
            have htk : x.params.take np = x.params := List.take_of_length_le (by rw [← HX.out.2.2]; exact Nat.le_refl _)
            rw [htk] at hkj
            have Hem : Hid (emptyB x.params = false) := by have h := HJ.out.1; rw [htk] at h; exact h
            have htot := Hxg.out.total
            have Hcall := Lib.hid (Hall.out wr c (.slice aw m cw) kvj (parK x.params) 0 0 HbWj.out (by omega) hkj (by omega) (by omega) (by rw [parK5_length, ← HX.out.2.2]; omega))
            obtain ⟨q, hq⟩ : ∃ q, q = St.rchks (x.params.map (·.name)) (arOf (p.funcs.take i)) x.body := ⟨_, rfl⟩
            have heq : St.r5chks (parK x.params) p.funcs x.body = q := by rw [hq]; exact fn_r5 Hxg.out.body (Hchk.out i x HX.out.1) Hxr.out.2.2
            rw [heq, keepE_zero, goN_zero, Int.zero_add] at Hcall
            have Hrf : Hid (r = if q.2 ≠ 0 then (q.2, (i : Int), (q.1 : Int)) else (0, 0, 0)) := by
              show _ = _
              rw [Hrr.out, hq]; unfold Fn.rfault; rw [Hem.out]; rfl
            obtain ⟨q1, q2⟩ := q
            simp only at Hcall Hrf
            clear hjn htk hq heq htot hkj hbWj
            go_wp2_with fail
            refine Hcall.out.mono ?_
            rintro E w10 ⟨rfl, kv10, hk10, hs10⟩
            have hb10 : Below V0.heap.size V0 w10 := HJ.out.2.2.trans (hs10.oth.below (B := V0.heap.size) qj fun k hk => by have := (HJ.out.2.1.wt hk).1; omega)
            have H10 := Lib.hid (And.intro hk10 (And.intro hb10 (HK.out.2.1.later hb10)))
            have e4 := hk10.c4
            have e3 := hk10.c3
            have qc10 := hk10.in
            clear hk10 hs10 hb10 c1 g1 g2 Hcall
            by_cases hq0 : q2 = 0
            · subst hq0
              have Hr0 : Hid (r = (0, 0, 0)) := by show _ = _; rw [Hrf.out]; rfl
              clear e3
              go_wp2_with fail
              go_roundg (n - (i + 1))
              case measure => have := Hg.out; omega
              case rel =>
                refine ⟨i + 1, rfl, by go_num, hin, fun j y hj hy => ?_, H10.out.2.2, HK.out.2.2.trans (H10.out.2.1.mono hVW)⟩
                by_cases e : j = i
                · subst e
                  rw [HX.out.1] at hy
                  cases hy
                  rw [← Hr.out, Hr0.out]
                · exact HK.out.1 j y (by omega) hy
            · have hq : (q2 != 0) = true := by simp [hq0]
              have Hres : Hid (p.rfault = (q2, (i : Int), (q1 : Int))) := by
                show _ = _
                have h : r = (q2, (i : Int), (q1 : Int)) := by rw [Hrf.out, if_pos hq0]
                rw [Hbad.out (by rw [h]; exact hq0), h]
              clear hq0
              go_upto_region 17 with (fail)
              refine wp_region_heldZ (S := fun w => w.cell? ⟨c, 4, none⟩ = some (.int .i64 q2) ∧ w.cell? ⟨c, 3, none⟩ = some (.int .i64 (q1 : Int))) (z := 10) rfl ?_
              change wpAnyZ _ _ _ _ _ _ _ _ _ w10.drew
              obtain ⟨W0, hW0⟩ : ∃ W0, W0 = w10.drew := ⟨_, rfl⟩
              rw [← hW0]
              have hb0 : Below w10.heap.size w10 W0 := by rw [hW0]; exact (Below.refl _ _).drew
              have Hb : Hid (W0.cell? ⟨c, 4, none⟩ = some (.int .i64 q2) ∧ W0.cell? ⟨c, 3, none⟩ = some (.int .i64 (q1 : Int))) := ⟨(hb0.cell (p := ⟨c, 4, none⟩) qc10).trans e4, (hb0.cell (p := ⟨c, 3, none⟩) qc10).trans e3⟩
              have HA0 : Hid (Below V0.heap.size V0 W0) := H10.out.2.1.trans (hb0.mono H10.out.2.1.size)
              have HC0 := Lib.hid (HK.out.2.1.later HA0.out)
              clear hb0 hW0 e3 e4
              refine wpAnyZ_take (i := 0) (by simp only [List.getElem?_toArray, List.getElem?_cons_zero]; rfl) (by kernel_rfl) (by kernel_rfl) (by kernel_rfl) (by kernel_rfl) (by intro _ _ _ h; exact h) (Or.inl ⟨by rfl, fun w hw => by (have k0 := hw.1; have k1 := hw.2; go_simp; try rfl)⟩) Hb.out ?_
              refine wpAnyZ_take (i := 1) (by simp only [List.getElem?_toArray, List.getElem?_cons_succ, List.getElem?_cons_zero]; rfl) (by kernel_rfl) (by kernel_rfl) (by kernel_rfl) (by kernel_rfl) (by intro _ _ _ h; exact h) (Or.inl ⟨by rfl, fun w hw => by (have k0 := hw.1; have k1 := hw.2; go_simp; try rfl)⟩) Hb.out ?_
              go_frame
              refine wpAnyZ_take (i := 2) (by simp only [List.getElem?_toArray, List.getElem?_cons_succ, List.getElem?_cons_zero]; rfl) (by kernel_rfl) (by kernel_rfl) (by kernel_rfl) (by kernel_rfl) (by intro _ _ _ h; exact h) (Or.inl ⟨by rfl, fun w hw => by (have k0 := hw.1; have k1 := hw.2; go_simp; try rfl)⟩) Hb.out ?_
              refine wpAnyZ_take (i := 3) (by simp only [List.getElem?_toArray, List.getElem?_cons_succ, List.getElem?_cons_zero]; rfl) (by kernel_rfl) (by kernel_rfl) (by kernel_rfl) (by kernel_rfl) (by intro _ _ _ h; exact h) (Or.inl ⟨by rfl, fun w hw => by (have k0 := hw.1; have k1 := hw.2; go_simp; try rfl)⟩) Hb.out ?_
              go_frame
              refine wpAnyZ_take (i := 4) (by simp only [List.getElem?_toArray, List.getElem?_cons_succ, List.getElem?_cons_zero]; rfl) (by kernel_rfl) (by kernel_rfl) (by kernel_rfl) (by kernel_rfl) (by intro _ _ _ h; exact h) (Or.inl ⟨by rfl, fun w hw => by (have k0 := hw.1; have k1 := hw.2; go_simp; try rfl)⟩) Hb.out ?_
              refine wpAnyZ_take (i := 5) (by simp only [List.getElem?_toArray, List.getElem?_cons_succ, List.getElem?_cons_zero]; rfl) (by kernel_rfl) (by kernel_rfl) (by kernel_rfl) (by kernel_rfl) (by intro _ _ _ h; exact h) (Or.inl ⟨by rfl, fun w hw => by (have k0 := hw.1; have k1 := hw.2; go_simp; try rfl)⟩) Hb.out ?_
              go_frame
              refine wpAnyZ_take (i := 6) (by simp only [List.getElem?_toArray, List.getElem?_cons_succ, List.getElem?_cons_zero]; rfl) (by kernel_rfl) (by kernel_rfl) (by kernel_rfl) (by kernel_rfl) (by intro _ _ _ h; exact h) (Or.inl ⟨by rfl, fun w hw => by (have k0 := hw.1; have k1 := hw.2; go_simp; try rfl)⟩) Hb.out ?_
              refine wpAnyZ_take (i := 7) (by simp only [List.getElem?_toArray, List.getElem?_cons_succ, List.getElem?_cons_zero]; rfl) (by kernel_rfl) (by kernel_rfl) (by kernel_rfl) (by kernel_rfl) (by intro _ _ _ h; exact h) (Or.inl ⟨by rfl, fun w hw => by (have k0 := hw.1; have k1 := hw.2; go_simp; try rfl)⟩) Hb.out ?_
              go_frame
              refine wpAnyZ_take (i := 8) (by simp only [List.getElem?_toArray, List.getElem?_cons_succ, List.getElem?_cons_zero]; rfl) (by kernel_rfl) (by kernel_rfl) (by kernel_rfl) (by kernel_rfl) (by intro _ _ _ h; exact h) (Or.inl ⟨by rfl, fun w hw => by (have k0 := hw.1; have k1 := hw.2; go_simp; try rfl)⟩) Hb.out ?_
              refine wpAnyZ_take (i := 9) (by simp only [List.getElem?_toArray, List.getElem?_cons_succ, List.getElem?_cons_zero]; rfl) (by kernel_rfl) (by kernel_rfl) (by kernel_rfl) (by kernel_rfl) (by intro _ _ _ h; exact h) (Or.inl ⟨by rfl, fun w hw => by (have k0 := hw.1; have k1 := hw.2; go_simp; try rfl)⟩) Hb.out ?_
              go_frame
              refine wpAnyZ_next (i := 10) (by kernel_rfl) (by simp only [List.getElem?_toArray, List.getElem?_cons_succ, List.getElem?_cons_zero]; rfl) (fun Kc hKc => ?_)
              obtain ⟨c0, c1, r0, r1, r2, z0, z1, z2⟩ := HC0.out
              go_simp
              refine hKc.out _ _ (fun h => absurd rfl h) ?_
              clear hKc Kc
              refine wpAnyZ_done (by kernel_rfl) ?_ _
              go_wp2_with fail
              obtain ⟨w9, hw9⟩ : ∃ w9, w9 = ((W0.setCell ⟨B + 1, 0, none⟩ (.int .i64 q2)).setCell ⟨B + 1, 1, none⟩ (.int .i64 (i : Int))).setCell ⟨B + 1, 2, none⟩ (.int .i64 (q1 : Int)) := ⟨_, rfl⟩
              rw [← hw9]
              obtain ⟨e0, e1, e2, hO9⟩ := HC0.out.answer (q2, (i : Int), (q1 : Int)) w9 hw9
              have HO9 := Lib.hid hO9
              clear hw9 hO9 c0 c1 r0 r1 r2 z0 z1 z2
              dsimp only at e0 e1 e2
              refine bodyPost_ret (by simp [results, Tryz.results7, go_sem, e0, e1, e2]; try rfl) rfl ?_
              exact ⟨by rw [Hres.out]; rfl, (HK.out.2.2.trans (HA0.out.mono hVW)).trans (HO9.out.below (Nat.le_trans hVW HA0.out.size) fun _ e => by omega)⟩
            --B>
      · obtain rfl : n = i := by omega
        have Hres : Hid (p.rfault = (0, 0, 0)) := by
          show _ = _
          rw [Hnf.out]
          exact Fn.rfaults_none fun j y hy => HK.out.1 j y (by rw [Hl.out.2]; exact (List.getElem?_eq_some_iff.1 hy).1) hy
        clear hin hO
        go_wp2_with fail
        obtain ⟨w9, hw9⟩ : ∃ w9, w9 = ((V0.setCell ⟨B + 1, 0, none⟩ (.int .i64 0)).setCell ⟨B + 1, 1, none⟩ (.int .i64 0)).setCell ⟨B + 1, 2, none⟩ (.int .i64 0) := ⟨_, rfl⟩
        rw [← hw9]
        obtain ⟨e0, e1, e2, hO9⟩ := HK.out.2.1.answer (0, 0, 0) w9 hw9
        have HO9 := Lib.hid hO9
        clear hw9 hO9 c0 c1 r0 r1 r2 z0 z1 z2
        dsimp only at e0 e1 e2
        refine bodyPost_ret (by simp [results, Tryz.results7, go_sem, e0, e1, e2]; try rfl) rfl ?_
        exact ⟨by rw [Hres.out]; rfl, HK.out.2.2.trans (HO9.out.below HK.out.2.2.size fun _ e => by omega)⟩
  · have hq : (ea != 0) = true := by simp [h0]
    have Hres : Hid (p.rfault = (ea, eb, ec)) := by
      show _ = _
      unfold Pg.rfault
      rw [← Ht0.out, if_pos h0]
    clear h0
    go_wp2_with fail
    obtain ⟨w9, hw9⟩ : ∃ w9, w9 = ((W3.setCell ⟨B + 1, 0, none⟩ (.int .i64 ea)).setCell ⟨B + 1, 1, none⟩ (.int .i64 eb)).setCell ⟨B + 1, 2, none⟩ (.int .i64 ec) := ⟨_, rfl⟩
    rw [← hw9]
    obtain ⟨e0, e1, e2, hO9⟩ := HK3.out.1.answer (ea, eb, ec) w9 hw9
    have HO9 := Lib.hid hO9
    clear hw9 hO9 c0 c1 r0 r1 r2 z0 z1 z2 d0 d1 d2
    dsimp only at e0 e1 e2
    refine bodyPost_ret (by simp [results, Tryz.results7, go_sem, e0, e1, e2]; try rfl) rfl ?_
    exact ⟨by rw [Hres.out]; rfl, HK3.out.2.trans (HO9.out.below HK3.out.2.size fun _ e => by omega)⟩
end Go.Proofs.YtgcplcffejbniaaGreat
