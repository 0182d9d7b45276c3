/- R4.Check: which name is used wrongly first. -/
import Derived.Test.YtgcplcffejbniaaGreatN4Look
namespace Go.Proofs.YtgcplcffejbniaaGreat
open Go.RowKit Go.Maps

theorem gAt_nodup {l : List Fn} {i : Nat} (h : ∀ j y, j < i → l[j]? = some y → (y.nfault ([] ++ gAt l j) (0 + j)).1 = 0) : (gAt l i).Nodup := by
  induction i with
  | zero => simp [gAt]
  | succ i ih =>
    have h1 := ih fun j y hj hy => h j y (by omega) hy
    cases hx : l[i]? with
    | none =>
      have e : gAt l (i + 1) = gAt l i := by
        unfold gAt
        rw [List.take_of_length_le (by have := List.getElem?_eq_none_iff.1 hx; omega), List.take_of_length_le (List.getElem?_eq_none_iff.1 hx)]
      rw [e]; exact h1
    | some x =>
      rw [gAt_next hx, List.nodup_append]
      refine ⟨h1, by simp, fun a ha b hb e => ?_⟩
      simp at hb
      subst hb; subst e
      have h2 := h i x (by omega) hx
      unfold Fn.nfault at h2
      rw [List.nil_append, if_pos (.inl ha)] at h2
      cases h2
set_option maxRecDepth 100000 in
set_option maxHeartbeats 4000000 in
theorem r4check_any (p : Pg) (vw vf : Value) (vp vb : Nat → Value) (W : World) (h : PgIn W p vw vf vp vb) : Calls Tryz.prog 16 #[pgV vw vf] W (Gives (fltV p.nfault) W) := by
  have HP := Lib.hid h
  obtain ⟨hw, hr, hpp, hbb⟩ := h
  obtain ⟨aw, cw, rfl, hwc, hwc2⟩ := hw.row.form
  obtain ⟨a, cap, rfl, hncap, hcap⟩ := hr.form
  obtain ⟨n, hn⟩ : ∃ n, n = p.funcs.length := ⟨_, rfl⟩
  obtain ⟨m, hm⟩ : ∃ m, m = p.widen.length := ⟨_, rfl⟩
  have hn62 : n ≤ 9223372036854775807 := by have : maxLen ≤ 9223372036854775807 := by decide
                                            omega
  have Hl := Lib.hid (And.intro hm hn)
  rw [← hn, ← hm] at HP
  rw [← hn, ← hm]
  obtain ⟨W1, hW1⟩ : ∃ W1, W1 = (W.alloc (.cells #[.slice aw m cw, .slice a n cap] 25)).alloc (.cells #[.int .i64 0, .int .i64 0, .int .i64 0] 29) := ⟨_, rfl⟩
  have hs1 : W1.heap.size = W.heap.size + 2 := by rw [hW1]; simp
  have hb1 : Below W.heap.size W W1 := by rw [hW1]; exact ((Below.refl _ _).alloc (Nat.le_refl _) _).alloc (by (try simp only [World.size_alloc]); (try simp only [size_set]); omega) _
  have hk1 : CkAt W1 W.heap.size (.slice aw m cw) (.slice a n cap) := by
    have q : (W.alloc (.cells #[.slice aw m cw, .slice a n cap] 25)).heap.size = W.heap.size + 1 := by simp
    have k : ∀ j, (((W.alloc (.cells #[.slice aw m cw, .slice a n cap] 25)).alloc (.cells #[.int .i64 0, .int .i64 0, .int .i64 0] 29)).cell? ⟨W.heap.size, j, none⟩) = (W.alloc (.cells #[.slice aw m cw, .slice a n cap] 25)).cell? ⟨W.heap.size, j, none⟩ :=
      fun j => ((Below.refl _ _).alloc (Nat.le_refl _) _).cell (p := ⟨W.heap.size, j, none⟩) (by show W.heap.size < _; omega)
    rw [hW1]
    exact ⟨(k 0).trans (World.cell?_alloc_at _ _ _ _ rfl), (k 1).trans (World.cell?_alloc_at _ _ _ _ rfl), World.cell?_alloc_at _ _ _ _ (by rw [q]), World.cell?_alloc_at _ _ _ _ (by rw [q]), World.cell?_alloc_at _ _ _ _ (by rw [q]),
      World.frozen?_alloc_at _ _ _ _ (by rw [q]), World.frozen?_alloc_at _ _ _ _ (by rw [q]), World.frozen?_alloc_at _ _ _ _ (by rw [q])⟩
  have HW1 := Lib.hid hW1
  obtain ⟨B, hB⟩ : ∃ B, B = W.heap.size := ⟨_, rfl⟩
  have hBW : W.heap.size ≤ B := by omega
  have HB := Lib.hid hB
  rw [← hB] at hk1
  have H1 := Lib.hid (And.intro hb1 hk1)
  unfold pgV
  clear hw hr hpp hbb hn hm hW1 hB hb1 hs1
  go_enter Tryz.func16, Tryz.ntmps16
  go_upto_region 1 with (fail)
  rw [← HW1.out, ← HB.out]
  obtain ⟨c0, c1, r0, r1, r2, z0, z1, z2⟩ := hk1
  go_wp2_with fail
  refine (rcheck_any p (.slice aw m cw) (.slice a n cap) vp vb W1 (PgIn.later HP.out H1.out.1)).mono ?_
  rintro e w2 ⟨rfl, hb2⟩
  have hk2 := H1.out.2.later hb2
  have hbb2 := H1.out.1.trans (hb2.mono H1.out.1.size)
  obtain ⟨t0, ht0⟩ : ∃ t, t = p.fault := ⟨_, rfl⟩
  rw [← ht0]
  have Ht0 := Lib.hid ht0
  obtain ⟨ea, eb, ec⟩ := t0
  unfold fltV
  obtain ⟨W3, hW3⟩ : ∃ W3, W3 = w2.alloc (.cells #[.int .i64 ea, .int .i64 eb, .int .i64 ec] 29) := ⟨_, rfl⟩
  obtain ⟨D, hD⟩ : ∃ D, D = w2.heap.size := ⟨_, rfl⟩
  have hb3 : Below w2.heap.size w2 W3 := by rw [hW3]; exact (Below.refl _ _).alloc (Nat.le_refl _) _
  have d0 : W3.cell? ⟨D, 0, none⟩ = some (.int .i64 ea) := by rw [hW3, hD]; exact World.cell?_alloc_at _ _ _ _ rfl
  have d1 : W3.cell? ⟨D, 1, none⟩ = some (.int .i64 eb) := by rw [hW3, hD]; exact World.cell?_alloc_at _ _ _ _ rfl
  have d2 : W3.cell? ⟨D, 2, none⟩ = some (.int .i64 ec) := by rw [hW3, hD]; exact World.cell?_alloc_at _ _ _ _ rfl
  have hK3 := hk2.later hb3
  have hB3 := hbb2.trans (hb3.mono hbb2.size)
  have HW3 := Lib.hid (And.intro hW3 hD)
  have HK3 := Lib.hid (And.intro hK3 hB3)
  have q3 : D < W3.heap.size := by rw [hW3, hD]; simp
  clear c0 c1 r0 r1 r2 z0 z1 z2 hb2 hk2 hbb2 ht0 hW3 hD hb3 hB3
  go_upto_region 2 with (fail)
  rw [← HW3.out.1, ← HW3.out.2]
  obtain ⟨c0, c1, r0, r1, r2, z0, z1, z2⟩ := hK3
  have q4 : B + 1 < W3.heap.size := block_lt_of_cell r0
  by_cases h0 : ea = 0
  · subst h0
    have hgood := Pg.good (p := p) (by rw [← Ht0.out])
    have Hgood := Lib.hid hgood
    have Hnf : Hid (p.nfault = Fn.nfaults p.funcs [] 0) := by show _ = _; unfold Pg.nfault; rw [← Ht0.out]; exact if_neg fun h => h rfl
    have hn32 : n ≤ 32 := by rw [Hl.out.2]; exact hgood.1
    clear hgood
    go_wp2_with fail
    clear c0 c1 r0 r1 r2 z0 z1 z2 d0 d1 d2
    go_loopg [4] n (fun g iv wx => ∃ i : Nat, g = n - i ∧ iv = .int .i64 (i : Int) ∧ i ≤ n ∧ (∀ j y, j < i → p.funcs[j]? = some y → (y.nfault ([] ++ gAt p.funcs j) (0 + j)).1 = 0) ∧ CkAt wx B (.slice aw m cw) (.slice a n cap) ∧ Below W.heap.size W wx)
    case atStart => exact ⟨0, rfl, rfl, Nat.zero_le _, fun j y h => by omega, HK3.out.1, HK3.out.2⟩
    case round =>
      obtain ⟨i, hg, rfl, hi, hp, hC, hB⟩ := hrel
      have HK := Lib.hid (And.intro hp (And.intro hC hB))
      have Hg := Lib.hid hg
      obtain ⟨c0, c1, r0, r1, r2, z0, z1, z2⟩ := hC
      have q5 : B + 1 < wr.heap.size := block_lt_of_cell r0
      clear hp hg hB
      by_cases hin : i < n
      · obtain ⟨x, hx⟩ : ∃ x, p.funcs[i]? = some x := ⟨_, List.getElem?_eq_getElem (by rw [← Hl.out.2]; exact hin)⟩
        have Hx := Lib.hid hx
        have Hlook := Lib.hid (r4look_any p (.slice aw m cw) (.slice a n cap) vp vb i x wr (PgIn.later HP.out HK.out.2.2) hx (gAt_nodup HK.out.1) Hgood.out.1 (Hgood.out.2 i x hx))
        clear hx
        go_wp2_with fail
        refine Hlook.out.mono ?_
        rintro E w5 ⟨c, bs, kv, K, nn, ll, ee, C, rfl, hb5, hc5, -⟩
        obtain ⟨t, ht⟩ : ∃ t, t = x.nfault (gAt p.funcs i) i := ⟨_, rfl⟩
        rw [← ht]
        have Ht := Lib.hid ht
        obtain ⟨xa, xb, xc⟩ := t
        unfold fltV
        obtain ⟨W6, hW6⟩ : ∃ W6, W6 = w5.alloc (.cells #[.int .i64 xa, .int .i64 xb, .int .i64 xc] 29) := ⟨_, rfl⟩
        obtain ⟨D6, hD6⟩ : ∃ D, D = w5.heap.size := ⟨_, rfl⟩
        have hb6 : Below w5.heap.size w5 W6 := by rw [hW6]; exact (Below.refl _ _).alloc (Nat.le_refl _) _
        have g0 : W6.cell? ⟨D6, 0, none⟩ = some (.int .i64 xa) := by rw [hW6, hD6]; exact World.cell?_alloc_at _ _ _ _ rfl
        have g1 : W6.cell? ⟨D6, 1, none⟩ = some (.int .i64 xb) := by rw [hW6, hD6]; exact World.cell?_alloc_at _ _ _ _ rfl
        have g2 : W6.cell? ⟨D6, 2, none⟩ = some (.int .i64 xc) := by rw [hW6, hD6]; exact World.cell?_alloc_at _ _ _ _ rfl
        have hb56 := hb5.trans (hb6.mono hb5.size)
        have HK6 := Lib.hid (And.intro (HK.out.2.1.later hb56) (HK.out.2.2.trans (hb56.mono HK.out.2.2.size)))
        have HW6 := Lib.hid (And.intro hW6 hD6)
        clear hb5 hc5 ht hW6 hD6 hb6 hb56 Hlook c0 c1 r0 r1 r2 z0 z1 z2
        go_upto_region 8 with (fail)
        rw [← HW6.out.1, ← HW6.out.2]
        obtain ⟨c0, c1, r0, r1, r2, z0, z1, z2⟩ := HK6.out.1
        have q6 : B + 1 < W6.heap.size := block_lt_of_cell r0
        by_cases hx0 : xa = 0
        · subst hx0
          go_wp2_with fail
          go_roundg (n - (i + 1))
          case measure => have := Hg.out; omega
          case rel => exact ⟨i + 1, rfl, by go_num, hin, fun j y hj hy => by
              by_cases e : j = i
              · subst e
                rw [Hx.out] at hy
                cases hy
                rw [List.nil_append, Nat.zero_add, ← Ht.out]
              · exact HK.out.1 j y (by omega) hy, HK6.out.1, HK6.out.2⟩
        · have hq : (xa != 0) = true := by simp [hx0]
          have Hres : Hid (p.nfault = (xa, xb, xc)) := by
            show _ = _
            have h : x.nfault ([] ++ gAt p.funcs i) (0 + i) = (xa, xb, xc) := by rw [List.nil_append, Nat.zero_add, ← Ht.out]
            rw [Hnf.out, Fn.nfaults_hit Hx.out HK.out.1 (by rw [h]; exact hx0), h]
          clear hx0
          go_wp2_with fail
          obtain ⟨w9, hw9⟩ : ∃ w9, w9 = ((W6.setCell ⟨B + 1, 0, none⟩ (.int .i64 xa)).setCell ⟨B + 1, 1, none⟩ (.int .i64 xb)).setCell ⟨B + 1, 2, none⟩ (.int .i64 xc) := ⟨_, rfl⟩
          rw [← hw9]
          obtain ⟨e0, e1, e2, hO9⟩ := HK6.out.1.answer (xa, xb, xc) w9 hw9
          have HO9 := Lib.hid hO9
          clear hw9 hO9 c0 c1 r0 r1 r2 z0 z1 z2
          dsimp only at e0 e1 e2
          refine bodyPost_ret (by simp [results, Tryz.results16, go_sem, e0, e1, e2]; try rfl) rfl ?_
          exact ⟨by rw [Hres.out]; rfl, HK6.out.2.trans (HO9.out.below (HK6.out.2.size) fun _ e => by omega)⟩
      · obtain rfl : n = i := by omega
        have Hres : Hid (p.nfault = (0, 0, 0)) := by
          show _ = _
          rw [Hnf.out]
          exact Fn.nfaults_none fun j y hy => HK.out.1 j y (by rw [Hl.out.2]; exact (List.getElem?_eq_some_iff.1 hy).1) hy
        clear hin
        go_wp2_with fail
        obtain ⟨w9, hw9⟩ : ∃ w9, w9 = ((wr.setCell ⟨B + 1, 0, none⟩ (.int .i64 0)).setCell ⟨B + 1, 1, none⟩ (.int .i64 0)).setCell ⟨B + 1, 2, none⟩ (.int .i64 0) := ⟨_, rfl⟩
        rw [← hw9]
        obtain ⟨e0, e1, e2, hO9⟩ := HK.out.2.1.answer (0, 0, 0) w9 hw9
        have HO9 := Lib.hid hO9
        clear hw9 hO9 c0 c1 r0 r1 r2 z0 z1 z2
        dsimp only at e0 e1 e2
        refine bodyPost_ret (by simp [results, Tryz.results16, go_sem, e0, e1, e2]; try rfl) rfl ?_
        exact ⟨by rw [Hres.out]; rfl, HK.out.2.2.trans (HO9.out.below (HK.out.2.2.size) fun _ e => by omega)⟩
  · have hq : (ea != 0) = true := by simp [h0]
    have Hres : Hid (p.nfault = (ea, eb, ec)) := by show _ = _; unfold Pg.nfault; rw [← Ht0.out]; exact if_pos h0
    clear h0
    go_wp2_with fail
    obtain ⟨w9, hw9⟩ : ∃ w9, w9 = ((W3.setCell ⟨B + 1, 0, none⟩ (.int .i64 ea)).setCell ⟨B + 1, 1, none⟩ (.int .i64 eb)).setCell ⟨B + 1, 2, none⟩ (.int .i64 ec) := ⟨_, rfl⟩
    rw [← hw9]
    obtain ⟨e0, e1, e2, hO9⟩ := HK3.out.1.answer (ea, eb, ec) w9 hw9
    have HO9 := Lib.hid hO9
    clear hw9 hO9 c0 c1 r0 r1 r2 z0 z1 z2 d0 d1 d2
    dsimp only at e0 e1 e2
    refine bodyPost_ret (by simp [results, Tryz.results16, go_sem, e0, e1, e2]; try rfl) rfl ?_
    exact ⟨by rw [Hres.out]; rfl, HK3.out.2.trans (HO9.out.below (HK3.out.2.size) fun _ e => by omega)⟩
end Go.Proofs.YtgcplcffejbniaaGreat
