/- R4's look at names: lists of statements. -/
import Derived.Test.YtgcplcffejbniaaGreatN4Stmt
namespace Go.Proofs.YtgcplcffejbniaaGreat
open Go.RowKit Go.Maps

set_option maxRecDepth 100000 in
set_option maxHeartbeats 8000000 in
theorem r4list_any (F : List Fn) (vf : Value) (vp vb' : Nat → Value) (k : Nat) (l : List St) (v : Value) (w0 : World) (hx : R4Ctx w0 F vf vp vb' k) (h : StsIn w0 l v) : R4ListOk w0 F vf k l v := by
  induction h with
  | mk l v va vb vd ve vc vk h ha hb hd he hc hk ihd ihe ihk =>
  intro hfi W c bs vw kv K n0 loops e0 C hB hcb hK hn0 hn1 hl0 hl1 hkl
  obtain ⟨a, cap, rfl, hncap, hcap⟩ := h.form
  obtain ⟨n, hn⟩ : ∃ n, n = l.length := ⟨_, rfl⟩
  have Hn := Lib.hid hn
  have Hbd := Lib.hid (And.intro hn1 (And.intro hl1 hkl))
  have Hfi := Lib.hid hfi
  have Hctx := Lib.hid hx
  have Hrow : Hid (RowOf w0 (.slice a n cap) l.length 14 (fun b o i => ∀ x, l[i]? = some x → StAt w0 b o x (va i) (vb i) (vd i) (ve i) (vc i))) := by rw [hn]; exact h
  have Hih := Lib.hid (And.intro ihd (And.intro ihe ihk))
  have Hf := Lib.hid (And.intro ha (And.intro hb (And.intro hd (And.intro he (And.intro hc hk)))))
  rw [← hn]
  rw [← hn] at hncap
  have hn62 : n ≤ 9223372036854775807 := by have : maxLen ≤ 9223372036854775807 := by decide
                                            omega
  obtain ⟨G, hG⟩ : ∃ G, G = gAt F k := ⟨_, rfl⟩
  rw [← hG]
  have HG := Lib.hid hG
  obtain ⟨N, hN⟩ : ∃ N, N = F.length := ⟨_, rfl⟩
  rw [← hN]
  rw [← hN] at hK
  have HN := Lib.hid hN
  obtain ⟨kn, hkn⟩ : ∃ kn, kn = K.length := ⟨_, rfl⟩
  obtain ⟨ao, co, hkv, -⟩ := hK.known.form
  have c5 := hK.c5
  rw [← hkn] at hkv
  rw [hkv] at c5
  have HB := Lib.hid hB
  have HK := Lib.hid hK
  have Hkn := Lib.hid (And.intro hkn hkv)
  have hkn2 : kn ≤ 90000 := by omega
  have qc := hK.in
  clear h ha hb hd he hc hk ihd ihe ihk hn hB hK hn1 hl1 hkl hfi hx hG hN hkn hkv
  go_enter Tryz.func48, Tryz.ntmps48
  go_wp2_with fail
  go_loopg [5] n (fun g iv wx => ∃ (i : Nat) (ei ni : Int) (kvi : Value) (D : Known) (Ci : List Int), g = n - i ∧ iv = .int .i64 (i : Int) ∧ i ≤ n ∧ RAt wx c bs vw vf kvi (K ++ D) (k : Int) ni loops ei N Ci ∧ WStep W wx c bs bs kv kvi ∧ D.length ≤ i ∧
    ((ei = 0 ∧ e0 = 0 ∧ ni = n0 + ((St.nchks K G loops (l.take i)).1 : Int) ∧ (St.nchks K G loops (l.take i)).2 = 0 ∧ K ++ D = kAfter K (l.take i) ∧ ∀ z, z ∈ Ci ↔ z ∈ C ∨ idxs G (St.ncallss (l.take i)) z) ∨ (ei ≠ 0 ∧ keepE e0 (St.nchks K G loops l).2 = ei ∧ n0 + goN e0 (St.nchks K G loops l).1 = ni)))
  case atStart =>
    refine ⟨0, e0, n0, kv, [], C, rfl, rfl, Nat.zero_le _, by rw [List.append_nil]; exact HK.out, .refl _ _ _ _ _, by simp, ?_⟩
    by_cases he : e0 = 0
    · exact .inl ⟨he, he, by simp [St.nchks], by simp [St.nchks], by simp [kAfter], by simp [St.ncallss, idxs]⟩
    · exact .inr ⟨he, keepE_no he _, by rw [goN_no he]; omega⟩
  case round =>
    obtain ⟨i, ei, ni, kvi, D, Ci, hg, rfl, hi, hKi, hsi, hDi, hp⟩ := hrel
    have Hg := Lib.hid hg
    have Hi := Lib.hid (And.intro hKi (And.intro hsi (And.intro hDi hp)))
    have HBi : Hid (Below w0.heap.size w0 wr) := hsi.below4 HK.out HB.out hcb
    have qi := hsi.oth.size
    have c6 := hKi.c6
    have Hend : Hid (∀ m' cap' a', kvi = .slice a' m' cap' → (e0 = e0 → ¬ (ei = 0 ∧ i < n)) → i ≤ n → R4LPost W (wr.setCell ⟨c, 5, none⟩ (.slice a' kn cap')) c bs vw vf kv K (k : Int) n0 loops e0 N C G (St.nchks K G loops l) (St.ncallss l)) := by
      intro m' cap' a' hkv2 hno hin
      subst hkv2
      have hcut := hKi.cut (j := kn) (by rw [Hkn.out.1]; simp)
      have htk : (K ++ D).take kn = K := by rw [Hkn.out.1]; exact List.take_left' rfl
      rw [htk] at hcut
      refine ⟨.slice a' kn cap', Ci, ?_, hsi.trans .cut, ?_⟩
      · rcases hp with h | h
        · have hni : i = n := by
            by_cases hlt : i < n
            · exact absurd ⟨h.1, hlt⟩ (hno rfl)
            · omega
          have ht : l.take i = l := List.take_of_length_le (by rw [hni, Hn.out]; exact Nat.le_refl _)
          rw [ht] at h
          exact hcut.to rfl (by rw [h.2.1, goN_zero, h.2.2.1]) rfl (by rw [h.2.1, keepE_zero, h.1, h.2.2.2.1])
        · exact hcut.to rfl h.2.2.symm rfl h.2.1.symm
      · intro he hr
        rcases hp with h | h
        · have hni : i = n := by
            by_cases hlt : i < n
            · exact absurd ⟨h.1, hlt⟩ (hno rfl)
            · omega
          have ht : l.take i = l := List.take_of_length_le (by rw [hni, Hn.out]; exact Nat.le_refl _)
          rw [ht] at h
          exact h.2.2.2.2.2
        · exfalso
          have h2 := h.2.1
          rw [he, keepE_zero, hr] at h2
          exact h.1 h2.symm
    have hform := hKi.known.form
    have k5 := hKi.c5
    have kf5 := hKi.f 5 (by decide)
    obtain ⟨a6, cap6, hkv6, hcap6, -⟩ := hform
    obtain ⟨m6, hm6⟩ : ∃ m6, m6 = (K ++ D).length := ⟨_, rfl⟩
    rw [← hm6] at hkv6 hcap6
    have hm6b : kn ≤ m6 := by rw [hm6, Hkn.out.1]; simp
    subst hkv6
    have hkcap : kn ≤ cap6 := by omega
    have Hm6 := Lib.hid hm6
    clear hg hKi hsi hDi hp hm6
    by_cases hin : i < n
    · by_cases hez : ei = 0
      · subst hez
        obtain ⟨hp1, hp2, hp3, hp4, hp5⟩ : e0 = 0 ∧ ni = n0 + ((St.nchks K G loops (l.take i)).1 : Int) ∧ (St.nchks K G loops (l.take i)).2 = 0 ∧ K ++ D = kAfter K (l.take i) ∧ ∀ z, z ∈ Ci ↔ z ∈ C ∨ idxs G (St.ncallss (l.take i)) z := by
          rcases Hi.out.2.2.2 with h | h
          · exact h.2
          · exact absurd rfl h.1
        have Hp := Lib.hid (And.intro hp1 (And.intro hp2 (And.intro hp3 (And.intro hp4 hp5))))
        obtain ⟨x, hx⟩ : ∃ x, l[i]? = some x := ⟨_, List.getElem?_eq_getElem (by rw [← Hn.out]; exact hin)⟩
        obtain ⟨b, off, rfl, hb, hP⟩ := Hrow.out.at (i := i) (by rw [← Hn.out]; exact hin)
        have hst := (hP x hx).later HBi.out hb
        obtain ⟨fa, fb, fd, fe, fc, fk⟩ := Hf.out
        obtain ⟨aa, ca, hva, -⟩ := (fa i x hx).form
        obtain ⟨ab, cb, hvb, -⟩ := (fb i x hx).form
        obtain ⟨ad, cd, hvd, -⟩ := (fd i x hx).form
        obtain ⟨ae, ce, hve, -⟩ := (fe i x hx).form
        obtain ⟨ac, cc, hvc, hcc1, hcc2⟩ := (fc i x hx).form
        have fa' : R4ExprOk w0 F vf k x.a.args (va i) := r4expr_any F vf vp vb' k _ _ _ Hctx.out (fa i x hx)
        have fb' : R4ExprOk w0 F vf k x.b.args (vb i) := r4expr_any F vf vp vb' k _ _ _ Hctx.out (fb i x hx)
        have fd' : R4ListOk w0 F vf k x.body (vd i) := Hih.out.1 i x hx
        have fe' : R4ListOk w0 F vf k x.els (ve i) := Hih.out.2.1 i x hx
        have fc' := fc i x hx
        have fk' : ∀ (j : Nat) y, x.cases[j]? = some y → StsIn w0 y.body (vk i j) ∧ R4ListOk w0 F vf k y.body (vk i j) := fun j y hy => ⟨fk i x j y hx hy, Hih.out.2.2 i x j y hx hy⟩
        obtain ⟨na, hna⟩ : ∃ n, n = x.a.args.length := ⟨_, rfl⟩
        obtain ⟨nb, hnb⟩ : ∃ n, n = x.b.args.length := ⟨_, rfl⟩
        obtain ⟨nd, hnd⟩ : ∃ n, n = x.body.length := ⟨_, rfl⟩
        obtain ⟨ne, hne⟩ : ∃ n, n = x.els.length := ⟨_, rfl⟩
        obtain ⟨nc, hnc⟩ : ∃ n, n = x.cases.length := ⟨_, rfl⟩
        rw [hva, hvb, hvd, hve, hvc, ← hna, ← hnb, ← hnd, ← hne, ← hnc] at hst
        rw [hva, ← hna] at fa'
        rw [hvb, ← hnb] at fb'
        rw [hvd, ← hnd] at fd'
        rw [hve, ← hne] at fe'
        rw [hvc, ← hnc] at fc'
        rw [← hnc] at hcc1
        have hnc62 : nc ≤ 9223372036854775807 := by have : maxLen ≤ 9223372036854775807 := by decide
                                                    omega
        have htt := St.totals_take hx
        have htl := St.totals_le (l := l) (i + 1)
        have htn := St.nchks_le K G loops (l.take i)
        have hli : i ≤ St.totals (l.take i) := Nat.le_trans (by simp; rw [← Hn.out]; omega) (St.len_totals (l.take i))
        have Hcall := Lib.hid (r4stmt_row x aa ab ad ae ac na nb nd ne nc ca cb cd ce cc (vk i) F vf k w0 hnc hnc62 fa' fb' fd' fe' fc' fk' (St.fines_at Hfi.out hx) wr c bs vw (.slice a6 m6 cap6) (K ++ D) ni loops Ci HBi.out hcb (by rw [← HN.out]; exact Hi.out.1) (by omega)
          (by have h1 := Hbd.out; omega) hl0 (by have h1 := Hbd.out; omega) (by have h1 := Hbd.out; have h2 := Hi.out.2.2.1; simp; omega))
        have Hx := Lib.hid hx
        obtain ⟨i0, i1, i2, i3, i4, i5, i6, i7, i8, i9, i10, i11, i12, i13⟩ := hst
        clear hP hx fa fb fd fe fc fk fa' fb' fd' fe' fc' fk' hna hnb hnd hne hnc hva hvb hvd hve hvc hcc1 htt htl htn hli hp1 hp2 hp3 hp4 hp5
        go_wp2_with fail
        refine Hcall.out.mono ?_
        rintro E w5 ⟨rfl, kv5, D5, C5, hK5, hs5, hD5, hC5⟩
        rw [← HG.out] at hK5 hC5
        rw [← HN.out] at hK5
        obtain ⟨p, hp⟩ : ∃ p, p = x.nchk (K ++ D) G loops := ⟨_, rfl⟩
        rw [← hp] at hK5 hC5
        have Hpp := Lib.hid hp
        have H5 := Lib.hid (And.intro hK5 (And.intro (Hi.out.2.1.trans hs5) (And.intro hD5 hC5)))
        clear hp hK5 hs5 hD5 hC5 i0 i1 i2 i3 i4 i5 i6 i7 i8 i9 i10 i11 i12 i13 Hcall c6 k5 kf5
        go_wp2_with fail
        go_roundg (n - (i + 1))
        case measure => have := Hg.out; omega
        case rel =>
          have hkd := Hp.out.2.2.2.1
          refine ⟨i + 1, p.2, ni + (p.1 : Int), kv5, D ++ D5, C5, rfl, by go_num, hin, by rw [← List.append_assoc]; exact H5.out.1, H5.out.2.1, by have h1 := H5.out.2.2.1; have h2 := Hi.out.2.2.1; simp; omega, ?_⟩
          have hnx := St.nchks_next (K := K) (G := G) (loops := loops) Hx.out
          rw [← hkd, ← Hpp.out] at hnx
          by_cases hz : p.2 = 0
          · obtain ⟨e1, e2⟩ := H5.out.2.2.2 hz
            rw [after_ok Hp.out.2.2.1] at hnx
            refine .inl ⟨hz, Hp.out.1, by rw [hnx, Hp.out.2.1]; simp only; omega, by rw [hnx]; exact hz, by rw [← List.append_assoc, e1, hkd, kAfter_take Hx.out], fun z => ?_⟩
            rw [e2 z, Hp.out.2.2.2.2 z, St.ncallss_take Hx.out, idxs_append, or_assoc]
          · have hh := St.nchks_hit (K := K) (G := G) (loops := loops) Hx.out Hp.out.2.2.1 (by rw [← hkd, ← Hpp.out]; exact hz)
            rw [← hkd, ← Hpp.out] at hh
            refine .inr ⟨hz, by rw [hh, Hp.out.1, keepE_zero], by rw [hh, Hp.out.1, goN_zero, Hp.out.2.1]; simp only; omega⟩
      · have hq : (ei == 0) = false := by simp [hez]
        have Hez := Lib.hid hez
        clear hez
        go_wp2_with fail
        refine bodyPost_end (results_none rfl _ _ _) rfl ?_
        exact ⟨rfl, Hend.out _ _ _ rfl (fun _ h => Hez.out h.1) hi⟩
    · have Hin := Lib.hid hin
      obtain rfl : n = i := by omega
      clear hin
      go_wp2_with fail
      refine bodyPost_end (results_none rfl _ _ _) rfl ?_
      exact ⟨rfl, Hend.out _ _ _ rfl (fun _ h => Nat.lt_irrefl _ h.2) hi⟩
end Go.Proofs.YtgcplcffejbniaaGreat
