/- names: the walker over lists of statements. -/
import Derived.Test.YtneibcpgengdnaaNmStmt
namespace Go.Proofs.Ytneibcpgengdnaa
open Go.RowKit Go.Maps

set_option maxRecDepth 100000 in
set_option maxHeartbeats 8000000 in
theorem nlist_any (l : List St) (v : Value) (w0 : World) (h : StsIn w0 l v) : NListOk w0 l v := by
  induction h with
  | mk l v va vb vd ve vc vk h ha hb hd he hc hk ihd ihe ihk =>
  intro hfi W c bk bf bc ov K G C n0 loops hB hcb hK hn0 hn1 hl0 hl1 hkl
  obtain ⟨a, cap, rfl, hncap, hcap⟩ := h.form
  obtain ⟨n, hn⟩ : ∃ n, n = l.length := ⟨_, rfl⟩
  have Hn := Lib.hid hn
  have Hbd := Lib.hid (And.intro hn1 (And.intro hl1 hkl))
  have Hfi := Lib.hid hfi
  have Hrow : Hid (RowOf w0 (.slice a n cap) l.length 14 (fun b o i => ∀ x, l[i]? = some x → StAt w0 b o x (va i) (vb i) (vd i) (ve i) (vc i))) := by rw [hn]; exact h
  have Hih := Lib.hid (And.intro ihd (And.intro ihe ihk))
  have Hf := Lib.hid (And.intro ha (And.intro hb (And.intro hd (And.intro he (And.intro hc hk)))))
  have HB := Lib.hid hB
  have HK := Lib.hid hK
  rw [← hn]
  rw [← hn] at hncap
  have hn62 : n ≤ 9223372036854775807 := by have : maxLen ≤ 9223372036854775807 := by decide
                                            omega
  obtain ⟨kn, hkn⟩ : ∃ kn, kn = K.length := ⟨_, rfl⟩
  obtain ⟨ao, co, hov⟩ := hK.len
  have c1 := hK.sc.c1
  rw [← hkn] at hov
  rw [hov] at c1
  have Hkn := Lib.hid (And.intro hkn hov)
  have hkn2 : kn ≤ 100000 := by omega
  have qc : c < W.heap.size := block_lt_of_cell hK.c2
  clear h ha hb hd he hc hk ihd ihe ihk hn hB hK hn1 hl1 hkl hfi hkn hov
  go_enter Try.func41, Try.ntmps41
  go_wp2_with fail
  go_loopg [17] n (fun g iv wx => ∃ (i : Nat) (ovi : Value) (Ci : List Int), g = n - i ∧ iv = .int .i64 (i : Int) ∧ i ≤ n ∧ WAt wx c bk bf bc ovi (kAfter K (l.take i)) G Ci (n0 + ((St.nchks K G loops (l.take i)).1 : Int)) loops ∧ WStep W wx c bk bc ov ovi ∧
    (St.nchks K G loops (l.take i)).2 = 0 ∧ ∀ z, z ∈ Ci ↔ z ∈ C ∨ idxs G (St.ncallss (l.take i)) z)
  case atStart => exact ⟨0, ov, C, rfl, rfl, Nat.zero_le _, HK.out.to (by simp [kAfter]) (by simp [St.nchks]) rfl, .refl _ _ _ _ _, by simp [St.nchks], by simp [St.ncallss, idxs]⟩
  case round =>
    obtain ⟨i, ovi, Ci, hg, rfl, hi, hKi, hsi, hzi, hci⟩ := hrel
    have Hg := Lib.hid hg
    have Hi := Lib.hid (And.intro hKi (And.intro hsi (And.intro hzi hci)))
    have HBi : Hid (Below w0.heap.size w0 wr) := hsi.below HK.out HB.out hcb
    have qi := hsi.oth.size
    obtain ⟨ti, hti⟩ : ∃ t, t = (St.nchks K G loops (l.take i)).1 := ⟨_, rfl⟩
    have Hti : Hid (ti ≤ St.totals (l.take i)) := by show _ ≤ _; rw [hti]; exact St.nchks_le _ _ _ _
    obtain ⟨Ki, hki⟩ : ∃ Ki, Ki = kAfter K (l.take i) := ⟨_, rfl⟩
    have HKi : Hid (∃ D, Ki = K ++ D ∧ D.length ≤ St.totals (l.take i)) := by
      obtain ⟨D, e1, e2⟩ := kAfter_le K (l.take i)
      exact ⟨D, by rw [hki, e1], Nat.le_trans e2 (St.len_totals _)⟩
    have hKlen : Ki.length ≤ K.length + St.totals (l.take i) := by
      obtain ⟨D, e1, e2⟩ := HKi.out
      rw [e1]; simp; omega
    have Hti2 := Lib.hid hti
    have Hki2 := Lib.hid hki
    have HKlen := Lib.hid hKlen
    clear hg hKi hsi hzi hci hti hki hKlen c1
    by_cases hin : i < n
    · obtain ⟨x, hx⟩ : ∃ x, l[i]? = some x := ⟨_, List.getElem?_eq_getElem (by rw [← Hn.out]; exact hin)⟩
      obtain ⟨b, off, rfl, hb, hP⟩ := Hrow.out.at (i := i) (by rw [← Hn.out]; exact hin)
      have hst := (hP x hx).later HBi.out hb
      obtain ⟨fa, fb, fd, fe, fc, fk⟩ := Hf.out
      obtain ⟨aa, ca, hva, -⟩ := (fa i x hx).form
      obtain ⟨ab, cb, hvb, -⟩ := (fb i x hx).form
      obtain ⟨ad, cd, hvd, -⟩ := (fd i x hx).form
      obtain ⟨ae, ce, hve, -⟩ := (fe i x hx).form
      obtain ⟨ac, cc, hvc, hcc1, hcc2⟩ := (fc i x hx).form
      have fa' : NExprOk w0 x.a.args (va i) := nexpr_any _ _ _ (fa i x hx)
      have fb' : NExprOk w0 x.b.args (vb i) := nexpr_any _ _ _ (fb i x hx)
      have fd' : NListOk w0 x.body (vd i) := Hih.out.1 i x hx
      have fe' : NListOk w0 x.els (ve i) := Hih.out.2.1 i x hx
      have fc' := fc i x hx
      have fk' : ∀ (j : Nat) y, x.cases[j]? = some y → StsIn w0 y.body (vk i j) ∧ NListOk w0 y.body (vk i j) := fun j y hy => ⟨fk i x j y hx hy, Hih.out.2.2 i x j y hx hy⟩
      obtain ⟨na, hna⟩ : ∃ n, n = x.a.args.length := ⟨_, rfl⟩
      obtain ⟨nb, hnb⟩ : ∃ n, n = x.b.args.length := ⟨_, rfl⟩
      obtain ⟨nd, hnd⟩ : ∃ n, n = x.body.length := ⟨_, rfl⟩
      obtain ⟨ne, hne⟩ : ∃ n, n = x.els.length := ⟨_, rfl⟩
      obtain ⟨nc, hnc⟩ : ∃ n, n = x.cases.length := ⟨_, rfl⟩
      rw [hva, hvb, hvd, hve, hvc, ← hna, ← hnb, ← hnd, ← hne, ← hnc] at hst
      rw [hva, ← hna] at fa'
      rw [hvb, ← hnb] at fb'
      rw [hvd, ← hnd] at fd'
      rw [hve, ← hne] at fe'
      rw [hvc, ← hnc] at fc'
      rw [← hnc] at hcc1
      have hnc62 : nc ≤ 9223372036854775807 := by have : maxLen ≤ 9223372036854775807 := by decide
                                                  omega
      obtain ⟨Y1, hY1⟩ : ∃ Y1, Y1 = wr.alloc (.cells #[.int .i64 x.kind, .string x.name, .int .i64 x.n, .int .i64 x.a.kind, .int .i64 x.a.n, .string x.a.name, .slice aa na ca, .int .i64 x.b.kind, .int .i64 x.b.n, .string x.b.name, .slice ab nb cb, .slice ad nd cd, .slice ae ne ce, .slice ac nc cc] 47) := ⟨_, rfl⟩
      have hbY : Below wr.heap.size wr Y1 := by rw [hY1]; exact (Below.refl _ _).alloc (Nat.le_refl _) _
      have hvY : StAt Y1 wr.heap.size 0 x (.slice aa na ca) (.slice ab nb cb) (.slice ad nd cd) (.slice ae ne ce) (.slice ac nc cc) := by rw [hY1]; exact StAt.box _ _ _ _ _ _ _ _
      have hkY := (Hi.out.1.later1 hbY).to Hki2.out.symm (by rw [← Hti2.out]) rfl
      have hsY : WStep W Y1 c bk bc ov ovi := Hi.out.2.1.trans (.of_below hbY)
      have hBY : Below w0.heap.size w0 Y1 := HBi.out.trans (hbY.mono HBi.out.size)
      have htt := St.totals_take hx
      have htl := St.totals_le (l := l) (i + 1)
      have Hcall := Lib.hid (nstmt_row x aa ab ad ae ac na nb nd ne nc ca cb cd ce cc (vk i) w0 hnc hnc62 fa' fb' fd' fe' fc' fk' (St.fines_at Hfi.out hx) Y1 c bk bf bc ovi Ki G Ci (n0 + (ti : Int)) loops hBY hcb hkY (by omega)
        (by have h1 := Hbd.out; have h4 := Hti.out; omega) hl0 (by have h1 := Hbd.out; omega) (by have h1 := Hbd.out; have h2 := HKlen.out; omega))
      have Hx := Lib.hid (And.intro hx hsY)
      have HY1 := Lib.hid hY1
      have HvY := Lib.hid hvY
      obtain ⟨i0, i1, i2, i3, i4, i5, i6, i7, i8, i9, i10, i11, i12, i13⟩ := hst
      clear hP hx fa fb fd fe fc fk fa' fb' fd' fe' fc' fk' hna hnb hnd hne hnc hva hvb hvd hve hvc hcc1 hY1 hbY hvY hkY hsY hBY htt htl
      go_upto_region 5 with (fail)
      rw [← HY1.out]
      obtain ⟨j0, j1, j2, j3, j4, j5, j6, j7, j8, j9, j10, j11, j12, j13⟩ := HvY.out
      simp only [Nat.zero_add] at j1 j2 j3 j4 j5 j6 j7 j8 j9 j10 j11 j12 j13
      clear i0 i1 i2 i3 i4 i5 i6 i7 i8 i9 i10 i11 i12 i13
      go_wp2_with fail
      refine Hcall.out.mono ?_
      rintro e w5 ⟨rfl, ov5, D5, C5, hK5, hs5, hD5, hC5⟩
      obtain ⟨p, hp⟩ : ∃ p, p = x.nchk Ki G loops := ⟨_, rfl⟩
      rw [← hp] at hK5 hC5
      rw [← hp]
      have Hp := Lib.hid hp
      have H5 := Lib.hid (And.intro hK5 (And.intro (Hx.out.2.trans hs5) (And.intro hD5 hC5)))
      clear hp hK5 hs5 hD5 hC5 j0 j1 j2 j3 j4 j5 j6 j7 j8 j9 j10 j11 j12 j13 Hcall
      by_cases hpz : p.2 = 0
      · have hq : (p.2 != 0) = false := by simp [hpz]
        have Hpz := Lib.hid hpz
        clear hpz
        go_wp2_with fail
        go_roundg (n - (i + 1))
        case measure => have := Hg.out; omega
        case rel =>
          have hnx := St.nchks_next (K := K) (G := G) (loops := loops) Hx.out.1
          rw [after_ok Hi.out.2.2.1, ← Hki2.out, ← Hp.out, ← Hti2.out] at hnx
          obtain ⟨e1, e2⟩ := H5.out.2.2.2 Hpz.out
          refine ⟨i + 1, ov5, C5, rfl, by go_num, by omega, H5.out.1.to (by rw [e1, kAfter_take Hx.out.1, Hki2.out]) (by rw [hnx]; simp only; omega) rfl, H5.out.2.1, by rw [hnx]; exact Hpz.out, fun z => ?_⟩
          rw [e2 z, Hi.out.2.2.2 z, St.ncallss_take Hx.out.1, idxs_append, or_assoc]
      · have hq : (p.2 != 0) = true := by simp [hpz]
        have Hfin : Hid (St.nchks K G loops l = (ti + p.1, p.2) ∧ p.2 ≠ 0) := by
          refine ⟨?_, hpz⟩
          have hh := St.nchks_hit (K := K) (G := G) (loops := loops) Hx.out.1 Hi.out.2.2.1 (by rw [← Hki2.out, ← Hp.out]; exact hpz)
          rw [← Hki2.out, ← Hp.out, ← Hti2.out] at hh
          exact hh
        clear hpz
        go_wp2_with fail
        go_ret
        obtain ⟨Di, e1, e2⟩ := HKi.out
        refine ⟨by rw [Hfin.out.1]; rfl, ov5, Di ++ D5, C5, H5.out.1.to (by rw [← List.append_assoc, e1]) (by rw [Hfin.out.1]; simp only; omega) rfl, H5.out.2.1, ?_, fun h => absurd (by rw [Hfin.out.1] at h; exact h) Hfin.out.2⟩
        have h1 := H5.out.2.2.1
        have h4 := St.totals_take Hx.out.1
        have h5 := St.totals_le (l := l) (i + 1)
        simp
        omega
    · obtain rfl : n = i := by omega
      have htk : l.take n = l := List.take_of_length_le (by rw [← Hn.out]; exact Nat.le_refl _)
      have hk := Hi.out.1.to Hki2.out.symm (by rw [← Hti2.out]) rfl
      have Hfg := Lib.hid (forget_any c bk ovi Ki kn wr hk.sc (by obtain ⟨D, e1, e2⟩ := HKi.out; rw [Hkn.out.1, e1]; simp) (by
        have h1 := Hbd.out
        have h2 := HKlen.out
        rw [htk] at h2
        omega))
      have Hk := Lib.hid hk
      have Htk := Lib.hid htk
      clear hk htk hin
      go_wp2_with fail
      refine Hfg.out.mono ?_
      rintro e w8 ⟨rfl, ov8, hs8, hO8, hN8, hKp8⟩
      have hk8 := (Hk.out.scope hs8 hO8 hKp8).to (K' := K) (by obtain ⟨D, e1, e2⟩ := HKi.out; rw [Hkn.out.1, e1, List.take_left']; rfl) rfl rfl
      have H8 := Lib.hid (And.intro hk8 (Hi.out.2.1.trans (.of_scope hO8 hN8)))
      clear hs8 hO8 hN8 hKp8 hk8 Hfg
      go_wp2_with fail
      go_ret
      have hj0 := Hi.out
      have ht0 := Hti2.out
      rw [Htk.out] at hj0 ht0
      have hz0 : (St.nchks K G loops l).2 = 0 := hj0.2.2.1
      refine ⟨by rw [hz0]; rfl, ov8, [], Ci, H8.out.1.to (by rw [List.append_nil]) (by rw [ht0]) rfl, H8.out.2, by simp, fun h => ⟨by rw [List.append_nil], hj0.2.2.2⟩⟩
end Go.Proofs.Ytneibcpgengdnaa
