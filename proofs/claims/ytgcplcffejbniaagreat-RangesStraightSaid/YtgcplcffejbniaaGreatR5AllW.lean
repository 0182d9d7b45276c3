/- R5's look at ranges: the walk of a list of statements (UNDER WAY). -/
import Derived.Test.YtgcplcffejbniaaGreatR5All
import Derived.IntWalk
namespace Go.Proofs.YtgcplcffejbniaaGreat
open Go.RowKit Go.Maps

set_option maxRecDepth 100000 in
set_option maxHeartbeats 8000000 in
theorem all5_any (F : List Fn) (vf : Value) (vp vb' : Nat → Value) (l : List St) (v : Value) (w0 : World) (hF : FnsIn w0 F vf vp vb') (h : StsIn w0 l v) : R5ListOk w0 F vf l v := by
  induction h with
  | mk l v va vb vd ve vc vk h ha hb hd he hc hk ihd ihe ihk =>
  intro W c vw kv K n0 e0 hB hcb hK hn0 hn1 hkl
  obtain ⟨a, cap, rfl, hncap, hcap⟩ := h.form
  obtain ⟨n, hn⟩ : ∃ n, n = l.length := ⟨_, rfl⟩
  have Hn := Lib.hid hn
  have Hbd := Lib.hid (And.intro hn1 hkl)
  have HF := Lib.hid hF
  have Hrow : Hid (RowOf w0 (.slice a n cap) l.length 14 (fun b o i => ∀ x, l[i]? = some x → StAt w0 b o x (va i) (vb i) (vd i) (ve i) (vc i))) := by rw [hn]; exact h
  have Hih := Lib.hid (And.intro ihd (And.intro ihe ihk))
  have Hf := Lib.hid (And.intro ha (And.intro hb (And.intro hd (And.intro he (And.intro hc hk)))))
  rw [← hn]
  rw [← hn] at hncap
  have hn62 : n ≤ 9223372036854775807 := by have : maxLen ≤ 9223372036854775807 := by decide
                                            omega
  obtain ⟨kn, hkn⟩ : ∃ kn, kn = K.length := ⟨_, rfl⟩
  obtain ⟨ao, co, hkv, -⟩ := hK.known.form
  have c2 := hK.c2
  rw [← hkn] at hkv
  rw [hkv] at c2
  have HB := Lib.hid hB
  have HK := Lib.hid hK
  have Hkn := Lib.hid (And.intro hkn hkv)
  have hkn2 : kn ≤ 90000 := by omega
  have qc := hK.in
  clear h ha hb hd he hc hk ihd ihe ihk hn hB hK hn1 hkl hF hkn hkv
  go_enter Tryz.func17, Tryz.ntmps17
  go_wp2_with fail
  go_loopg [5] n (fun g iv wx => ∃ (i : Nat) (ei ni : Int) (kvi : Value) (D : Known), g = n - i ∧ iv = .int .i64 (i : Int) ∧ i ≤ n ∧ W5At wx c vw vf kvi (K ++ D) ni ei ∧ WStep W wx c c c kv kvi ∧ D.length ≤ i ∧
    ((ei = 0 ∧ e0 = 0 ∧ ni = n0 + ((St.r5chks K F (l.take i)).1 : Int) ∧ (St.r5chks K F (l.take i)).2 = 0 ∧ K ++ D = kAfter K (l.take i)) ∨ (ei ≠ 0 ∧ keepE e0 (St.r5chks K F l).2 = ei ∧ n0 + goN e0 (St.r5chks K F l).1 = ni)))
  case atStart =>
    refine ⟨0, e0, n0, kv, [], rfl, rfl, Nat.zero_le _, by rw [List.append_nil]; exact HK.out, .refl _ _ _ _ _, by simp, ?_⟩
    by_cases he : e0 = 0
    · exact .inl ⟨he, he, by simp [St.r5chks], by simp [St.r5chks], by simp [kAfter]⟩
    · exact .inr ⟨he, keepE_no he _, by rw [goN_no he]; omega⟩
  case round =>
    obtain ⟨i, ei, ni, kvi, D, hg, rfl, hi, hKi, hsi, hDi, hp⟩ := hrel
    have Hg := Lib.hid hg
    have Hi := Lib.hid (And.intro hKi (And.intro hsi (And.intro hDi hp)))
    have HBi : Hid (Below w0.heap.size w0 wr) := hsi.below5 HK.out HB.out hcb
    have qi := hsi.oth.size
    have c4 := hKi.c4
    obtain ⟨a6, cap6, hkv6, hcap6, -⟩ := hKi.known.form
    obtain ⟨m6, hm6⟩ : ∃ m6, m6 = (K ++ D).length := ⟨_, rfl⟩
    rw [← hm6] at hkv6 hcap6
    have hm6b : kn ≤ m6 := by rw [hm6, Hkn.out.1]; simp
    subst hkv6
    have hkcap : kn ≤ cap6 := by omega
    have Hm6 := Lib.hid hm6
    have k2 := hKi.c2
    have kf2 := hKi.f 2 (by decide)
    have Hend : Hid (¬ (ei = 0 ∧ i < n) → ∃ kv', W5At (wr.setCell ⟨c, 2, none⟩ (.slice a6 kn cap6)) c vw vf kv' K (n0 + goN e0 (St.r5chks K F l).1) (keepE e0 (St.r5chks K F l).2) ∧ WStep W (wr.setCell ⟨c, 2, none⟩ (.slice a6 kn cap6)) c c c kv kv') := by
      intro hno
      have hcut := hKi.cut (j := kn) (by rw [Hkn.out.1]; simp)
      have htk : (K ++ D).take kn = K := by rw [Hkn.out.1]; exact List.take_left' rfl
      rw [htk] at hcut
      refine ⟨.slice a6 kn cap6, ?_, hsi.trans .cut5⟩
      rcases hp with h | h
      · have hni : i = n := by
          by_cases hlt : i < n
          · exact absurd ⟨h.1, hlt⟩ hno
          · omega
        have ht : l.take i = l := List.take_of_length_le (by rw [hni, Hn.out]; exact Nat.le_refl _)
        rw [ht] at h
        exact hcut.to rfl (by rw [h.2.1, goN_zero, h.2.2.1]) (by rw [h.2.1, keepE_zero, h.1, h.2.2.2.1])
      · exact hcut.to rfl h.2.2.symm h.2.1.symm
    clear hg hKi hsi hDi hp hm6
    by_cases hin : i < n
    · by_cases hez : ei = 0
      · subst hez
        obtain ⟨hp1, hp2, hp3, hp4⟩ : e0 = 0 ∧ ni = n0 + ((St.r5chks K F (l.take i)).1 : Int) ∧ (St.r5chks K F (l.take i)).2 = 0 ∧ K ++ D = kAfter K (l.take i) := by
          rcases Hi.out.2.2.2 with h | h
          · exact h.2
          · exact absurd rfl h.1
        have Hp := Lib.hid (And.intro hp1 (And.intro hp2 (And.intro hp3 hp4)))
        obtain ⟨x, hx⟩ : ∃ x, l[i]? = some x := ⟨_, List.getElem?_eq_getElem (by rw [← Hn.out]; exact hin)⟩
        obtain ⟨b, off, rfl, hb, hP⟩ := Hrow.out.at (i := i) (by rw [← Hn.out]; exact hin)
        have hst := (hP x hx).later HBi.out hb
        obtain ⟨fa, fb, fd, fe, fc, fk⟩ := Hf.out
        obtain ⟨aa, ca, hva, -⟩ := (fa i x hx).form
        obtain ⟨ab, cb, hvb, -⟩ := (fb i x hx).form
        obtain ⟨ad, cd, hvd, -⟩ := (fd i x hx).form
        obtain ⟨ae, ce, hve, -⟩ := (fe i x hx).form
        obtain ⟨ac, cc, hvc, hcc1, hcc2⟩ := (fc i x hx).form
        obtain ⟨na, hna⟩ : ∃ n, n = x.a.args.length := ⟨_, rfl⟩
        obtain ⟨nb, hnb⟩ : ∃ n, n = x.b.args.length := ⟨_, rfl⟩
        obtain ⟨nd, hnd⟩ : ∃ n, n = x.body.length := ⟨_, rfl⟩
        obtain ⟨ne, hne⟩ : ∃ n, n = x.els.length := ⟨_, rfl⟩
        obtain ⟨nc, hnc⟩ : ∃ n, n = x.cases.length := ⟨_, rfl⟩
        have ba : B5Ok w0 x.a.args (va i) := bound5_any _ _ _ (fa i x hx)
        have bb : B5Ok w0 x.b.args (vb i) := bound5_any _ _ _ (fb i x hx)
        have ea : E5Ok w0 F vf x.a.args (va i) := expr5_any F vf vp vb' _ _ _ HF.out (fa i x hx)
        have eb : E5Ok w0 F vf x.b.args (vb i) := expr5_any F vf vp vb' _ _ _ HF.out (fb i x hx)
        have fd' : R5ListOk w0 F vf x.body (vd i) := Hih.out.1 i x hx
        have fe' : R5ListOk w0 F vf x.els (ve i) := Hih.out.2.1 i x hx
        have fc' := fc i x hx
        have fk' : ∀ (j : Nat) y, x.cases[j]? = some y → StsIn w0 y.body (vk i j) ∧ R5ListOk w0 F vf y.body (vk i j) := fun j y hy => ⟨fk i x j y hx hy, Hih.out.2.2 i x j y hx hy⟩
        rw [hva, ← hna] at ba ea hst
        rw [hvb, ← hnb] at bb eb hst
        rw [hvd, ← hnd] at fd' hst
        rw [hve, ← hne] at fe' hst
        rw [hvc, ← hnc] at fc' hst
        have hhead := head5_any x aa ab ad ae ac na nb nd ne nc ca cb cd ce cc (vk i) F vf w0 hnc ba bb ea eb (by rw [← hnc]; exact fc')
        have Hhead := Lib.hid hhead
        have Hx := Lib.hid (And.intro hx (And.intro fd' (And.intro fe' (And.intro fc' fk'))))
        have hnc62 : nc ≤ 9223372036854775807 := by
          have h1 : maxLen ≤ 9223372036854775807 := by decide
          have h2 : nc ≤ cc := by rw [hnc]; exact hcc1
          omega
        have Hnc := Lib.hid hnc
        clear hp1 hp2 hp3 hp4 hx hP fa fb fd fe fc fk hva hvb hvd hve hvc hna hnb hnd hne hnc ba bb ea eb fd' fe' fc' fk' hhead hcc1 hcc2
        obtain ⟨W1, hW1⟩ : ∃ W1, W1 = wr.alloc (.cells #[.int .i64 x.kind, .string x.name, .int .i64 x.n, .int .i64 x.a.kind, .int .i64 x.a.n, .string x.a.name, .slice aa na ca, .int .i64 x.b.kind, .int .i64 x.b.n, .string x.b.name, .slice ab nb cb, .slice ad nd cd, .slice ae ne ce, .slice ac nc cc] 43) := ⟨_, rfl⟩
        obtain ⟨X, hX⟩ : ∃ D, D = wr.heap.size := ⟨_, rfl⟩
        have hb1 : Below wr.heap.size wr W1 := by rw [hW1]; exact (Below.refl _ _).alloc (Nat.le_refl _) _
        have hv1 : StAt W1 X 0 x (.slice aa na ca) (.slice ab nb cb) (.slice ad nd cd) (.slice ae ne ce) (.slice ac nc cc) := by rw [hW1, hX]; exact StAt.box _ _ _ _ _ _ _ _
        have hk1 := Hi.out.1.later hb1
        obtain ⟨W2, hW2⟩ : ∃ W2, W2 = W1.setCell ⟨c, 3, none⟩ (.int .i64 (ni + 1)) := ⟨_, rfl⟩
        have hk2 : W5At W2 c vw vf (.slice a6 m6 cap6) (K ++ D) (ni + 1) 0 := by rw [hW2]; exact hk1.put 3 (by omega) _
        have c3 := hk1.c3
        have f3 := hk1.f 3 (by decide)
        have hnib : 0 ≤ ni ∧ ni ≤ 1000000 := by
          have h1 := Hp.out.2.1
          have h2 := St.r5chks_le F (l.take i) K
          have h3 := Hbd.out.1
          have h4 := St.totals_le (l := l) i
          omega
        have H1 := Lib.hid (And.intro hb1 (And.intro hv1 hk1))
        have H2 := Lib.hid hk2
        have HW1 := Lib.hid (And.intro hW1 hX)
        have HW2 := Lib.hid hW2
        obtain ⟨j0, j1, j2, j3, j4, j5, j6, j7, j8, j9, j10, j11, j12, j13⟩ := hst
        clear hb1 hv1 hk1 hk2 hW1 hX hW2
        go_upto_region 5 with (fail)
        rw [← HW1.out.2, ← HW1.out.1]
        go_upto_region 6 with (fail)
        rw [← HW2.out]
        have hs2 : WStep W1 W2 c c c (.slice a6 m6 cap6) (.slice a6 m6 cap6) := by rw [HW2.out]; exact .set _ _
        have qX : X < W1.heap.size := block_lt_of_cell H1.out.2.1.c0
        have HnotX : Hid (¬ WT c c c (.slice a6 m6 cap6) X) := not_wt (by have := HW1.out.2; omega) (by have := HW1.out.2; omega) (by have := HW1.out.2; omega) (fun j e => by have := (Hi.out.1.own j e).2; have := HW1.out.2; omega)
        have HB1 : Hid (Below w0.heap.size w0 W1) := HBi.out.trans (H1.out.1.mono HBi.out.size)
        have HB2 : Hid (Below w0.heap.size w0 W2) := hs2.below5 H1.out.2.2 HB1.out hcb
        obtain ⟨i0, i1, i2, i3, i4, i5, i6, i7, i8, i9, i10, i11, i12, i13⟩ := H1.out.2.1.oth hs2.oth qX HnotX.out
        simp only [Nat.zero_add] at i1 i2 i3 i4 i5 i6 i7 i8 i9 i10 i11 i12 i13
        have HS2 := Lib.hid hs2
        have hlen : (K ++ D).length ≤ 100000 := by
          have h1 := Hi.out.2.2.1
          have h2 := Hbd.out.2
          have h3 : i ≤ n := by omega
          have h4 := len_tot5 l
          have h5 := Hn.out
          have h6 := Hkn.out.1
          simp
          omega
        have Hcall := Lib.hid (Hhead.out W2 c vw (.slice a6 m6 cap6) (K ++ D) (ni + 1) HB2.out hcb H2.out hlen)
        clear hs2 hlen j0 j1 j2 j3 j4 j5 j6 j7 j8 j9 j10 j11 j12 j13 c3 f3 c4
        go_wp2_with fail
        refine Hcall.out.mono ?_
        rintro E w3 ⟨rfl, hk3, hs3⟩
        obtain ⟨K1, hK1⟩ : ∃ K1, K1 = K ++ D := ⟨_, rfl⟩
        obtain ⟨e1, he1⟩ : ∃ e, e = x.h5 (K ++ D) F := ⟨_, rfl⟩
        rw [← he1, ← hK1] at hk3
        rw [← hK1] at he1
        have hs13 := HS2.out.trans hs3
        have HB3 : Hid (Below w0.heap.size w0 w3) := hs13.below5 H1.out.2.2 HB1.out hcb
        obtain ⟨j0, j1, j2, j3, j4, j5, j6, j7, j8, j9, j10, j11, j12, j13⟩ := H1.out.2.1.oth hs13.oth qX HnotX.out
        simp only [Nat.zero_add] at j1 j2 j3 j4 j5 j6 j7 j8 j9 j10 j11 j12 j13
        have q3 := hs13.oth.size
        have Hj1 := Lib.hid j1
        have Hlen : Hid (K1.length ≤ 90000) := by
          show _ ≤ _
          have h1 := Hi.out.2.2.1
          have h2 := Hbd.out.2
          have h4 := len_tot5 l
          have h5 := Hn.out
          have h6 := Hkn.out.1
          rw [hK1]
          simp
          omega
        have HnotK : Hid (¬ (Value.slice a6 m6 cap6).ownBlock = some X) := fun e => by have h1 := (Hi.out.1.own X e).2; have h2 := HW1.out.2; omega
        have H3 := Lib.hid (And.intro hk3 (And.intro hs13 (And.intro hK1 he1)))
        have c2 := hk3.c2
        clear hk3 hs3 hs13 hK1 he1 i0 i1 i2 i3 i4 i5 i6 i7 i8 i9 i10 i11 i12 i13 Hcall j2 j3 j4 j8 j9 j10 j11 j12 j13 k2 kf2
        go_upto_block 2 with (fail)
        go_cut [] (fun wc => ∃ (kv3 : Value) (D3 : Known), x.nin5 K1 = K1 ++ D3 ∧ D3.length ≤ 1 ∧ W5At wc c vw vf kv3 (K1 ++ D3) (ni + 1) e1 ∧ WStep W1 wc c c c (.slice a6 m6 cap6) kv3)
        case first =>
          by_cases h1 : x.kind = 1
          · --<A
            have Hnin : Hid (x.nin5 K1 = K1 ++ [(x.name, 2)]) := by show _ = _; unfold St.nin5 St.nadd; simp [h1]
            have hq1 : (x.kind == 1) = true := by simp [h1]
            clear h1
            go_upto_region 9 with (fail)
            refine wp_region_heldZ (S := fun w => w.cell? ⟨c, 2, none⟩ = some (.slice a6 m6 cap6) ∧ w.cell? ⟨X, 1, none⟩ = some (.string x.name)) (z := 12) rfl ?_
            change wpAnyZ _ _ _ _ _ _ _ _ _ w3.drew
            obtain ⟨W0, hW0⟩ : ∃ W0, W0 = w3.drew := ⟨_, rfl⟩
            rw [← hW0]
            have hb0 : Below w3.heap.size w3 W0 := by rw [hW0]; exact (Below.refl _ _).drew
            have Hb : Hid (W0.cell? ⟨c, 2, none⟩ = some (.slice a6 m6 cap6) ∧ W0.cell? ⟨X, 1, none⟩ = some (.string x.name)) := ⟨(hb0.cell (p := ⟨c, 2, none⟩) H3.out.1.in).trans H3.out.1.c2, (hb0.cell (p := ⟨X, 1, none⟩) (Nat.lt_of_lt_of_le qX q3)).trans j1⟩
            have HF0 := Lib.hid hb0
            clear hb0 hW0 j0 j1 j5 j6 j7 c2
            refine wpAnyZ_take (i := 0) (by simp only [List.getElem?_toArray, List.getElem?_cons_zero]; rfl) (by kernel_rfl) (by kernel_rfl) (by kernel_rfl) (by kernel_rfl) (by intro _ _ _ h; exact h) (Or.inl ⟨by rfl, fun w hw => by (have k0 := hw.1; have k1 := hw.2; go_simp; try rfl)⟩) Hb.out ?_
            refine wpAnyZ_take (i := 1) (by simp only [List.getElem?_toArray, List.getElem?_cons_succ, List.getElem?_cons_zero]; rfl) (by kernel_rfl) (by kernel_rfl) (by kernel_rfl) (by kernel_rfl) (by intro _ _ _ h; exact h) (Or.inl ⟨by rfl, fun w hw => by (have k0 := hw.1; have k1 := hw.2; go_simp; try rfl)⟩) Hb.out ?_
            go_frame
            refine wpAnyZ_take (i := 2) (by simp only [List.getElem?_toArray, List.getElem?_cons_succ, List.getElem?_cons_zero]; rfl) (by kernel_rfl) (by kernel_rfl) (by kernel_rfl) (by kernel_rfl) (by intro _ _ _ h; exact h) (Or.inl ⟨by rfl, fun w hw => by (have k0 := hw.1; have k1 := hw.2; go_simp; try rfl)⟩) Hb.out ?_
            refine wpAnyZ_take (i := 3) (by simp only [List.getElem?_toArray, List.getElem?_cons_succ, List.getElem?_cons_zero]; rfl) (by kernel_rfl) (by kernel_rfl) (by kernel_rfl) (by kernel_rfl) (by intro _ _ _ h; exact h) (Or.inl ⟨by rfl, fun w hw => by (have k0 := hw.1; have k1 := hw.2; go_simp; try rfl)⟩) Hb.out ?_
            go_frame
            refine wpAnyZ_take (i := 4) (by simp only [List.getElem?_toArray, List.getElem?_cons_succ, List.getElem?_cons_zero]; rfl) (by kernel_rfl) (by kernel_rfl) (by kernel_rfl) (by kernel_rfl) (by intro _ _ _ h; exact h) (Or.inl ⟨by rfl, fun w hw => by (have k0 := hw.1; have k1 := hw.2; go_simp; try rfl)⟩) Hb.out ?_
            refine wpAnyZ_take (i := 5) (by simp only [List.getElem?_toArray, List.getElem?_cons_succ, List.getElem?_cons_zero]; rfl) (by kernel_rfl) (by kernel_rfl) (by kernel_rfl) (by kernel_rfl) (by intro _ _ _ h; exact h) (Or.inl ⟨by rfl, fun w hw => by (have k0 := hw.1; have k1 := hw.2; go_simp; try rfl)⟩) Hb.out ?_
            go_frame
            refine wpAnyZ_take (i := 6) (by simp only [List.getElem?_toArray, List.getElem?_cons_succ, List.getElem?_cons_zero]; rfl) (by kernel_rfl) (by kernel_rfl) (by kernel_rfl) (by kernel_rfl) (by intro _ _ _ h; exact h) (Or.inl ⟨by rfl, fun w hw => by (have k0 := hw.1; have k1 := hw.2; go_simp; try rfl)⟩) Hb.out ?_
            refine wpAnyZ_take (i := 7) (by simp only [List.getElem?_toArray, List.getElem?_cons_succ, List.getElem?_cons_zero]; rfl) (by kernel_rfl) (by kernel_rfl) (by kernel_rfl) (by kernel_rfl) (by intro _ _ _ h; exact h) (Or.inl ⟨by rfl, fun w hw => by (have k0 := hw.1; have k1 := hw.2; go_simp; try rfl)⟩) Hb.out ?_
            go_frame
            refine wpAnyZ_next (i := 8) (by kernel_rfl) (by simp only [List.getElem?_toArray, List.getElem?_cons_succ, List.getElem?_cons_zero]; rfl) (fun Kc hKc => ?_)
            go_simp
            obtain ⟨Z, hZ⟩ : ∃ Z, Z = W0.heap.size := ⟨_, rfl⟩
            obtain ⟨W7, hW7⟩ : ∃ w : World, w = W0.alloc (.cells #[.string x.name, .int .u8 118] 58) := ⟨_, rfl⟩
            rw [← hZ, ← hW7]
            have hb7 : Below W0.heap.size W0 W7 := by rw [hW7]; exact (Below.refl _ _).alloc (Nat.le_refl _) _
            have HZ : Hid ((W7.cell? ⟨Z, 0, none⟩ = some (.string x.name) ∧ W7.cell? ⟨Z, 1, none⟩ = some (.int .u8 118)) ∧ Z < W7.heap.size) := ⟨⟨by rw [hW7]; exact World.cell?_alloc_at _ _ _ _ hZ, by rw [hW7]; exact World.cell?_alloc_at _ _ _ _ hZ⟩, by rw [hW7, hZ]; simp⟩
            have HF7 : Hid (Below w3.heap.size w3 W7) := HF0.out.trans (hb7.mono HF0.out.size)
            have HK7 : Hid (OwnVars W7 (c + 1) (.slice a6 m6 cap6) K1) := (H3.out.1.later HF7.out).known
            have q7 : c < W7.heap.size := Nat.lt_of_lt_of_le H3.out.1.in HF7.out.size
            clear hb7 hZ hW7
            refine hKc.out _ _ (fun _ => ⟨(HF7.out.cell (p := ⟨c, 2, none⟩) H3.out.1.in).trans H3.out.1.c2, (HF7.out.cell (p := ⟨X, 1, none⟩) (Nat.lt_of_lt_of_le qX q3)).trans Hj1.out⟩) ?_
            clear hKc Kc
            try go_frame
            refine wpAnyZ_next (i := 9) (by kernel_rfl) (by simp only [List.getElem?_toArray, List.getElem?_cons_succ, List.getElem?_cons_zero]; rfl) (fun Kc hKc => ?_)
            rw [if_pos (by rfl)]
            refine append5_wp _ _ rfl (c + 1) (.slice a6 m6 cap6) K1 rfl HK7.out x.name 2 118 rfl Z rfl HZ.out (Nat.le_trans Hlen.out (by decide)) q7 ?_
            intro v4 W4 hown4 hg4 hfr4
            have HG := Lib.hid (H3.out.1.grow (k := 2) (by decide) HF7.out hown4 hg4 hfr4)
            obtain ⟨a4, n4, hv4, -⟩ := hown4.form
            obtain ⟨m4, hm4⟩ : ∃ m, m = (K1 ++ [(x.name, (2 : Int))]).length := ⟨_, rfl⟩
            rw [← hm4] at hv4
            subst hv4
            clear hm4 hown4 hg4 hfr4
            have HS4 : Hid (W4.cell? ⟨c, 2, none⟩ = some (.slice a6 m6 cap6) ∧ W4.cell? ⟨X, 1, none⟩ = some (.string x.name)) := ⟨HG.out.2.1.1, (HG.out.1.cell (p := ⟨X, 1, none⟩) (Nat.lt_of_lt_of_le qX q3) HnotK.out).trans Hj1.out⟩
            refine hKc.out _ _ (fun _ => HS4.out) ?_
            clear hKc Kc
            try go_frame
            refine wpAnyZ_next (i := 10) (by kernel_rfl) (by simp only [List.getElem?_toArray, List.getElem?_cons_succ, List.getElem?_cons_zero]; rfl) (fun Kc hKc => ?_)
            go_simp
            refine hKc.out _ _ (fun _ => HS4.out) ?_
            clear hKc Kc
            try go_frame
            refine wpAnyZ_next (i := 11) (by kernel_rfl) (by simp only [List.getElem?_toArray, List.getElem?_cons_succ, List.getElem?_cons_zero]; rfl) (fun Kc hKc => ?_)
            go_simp
            refine hKc.out _ _ (fun _ => HS4.out) ?_
            clear hKc Kc
            try go_frame
            refine wpAnyZ_next (i := 12) (by kernel_rfl) (by simp only [List.getElem?_toArray, List.getElem?_cons_succ, List.getElem?_cons_zero]; rfl) (fun Kc hKc => ?_)
            have z4 := HG.out.2.1.1
            have z5 := HG.out.2.1.2
            go_simp
            refine hKc.out _ _ (fun h => absurd rfl h) ?_
            clear hKc Kc z4 z5
            refine wpAnyZ_done (by kernel_rfl) ?_ _
            go_wp2_with fail
            go_meet
            case rel => exact ⟨_, [(x.name, 2)], by rw [Hnin.out], Nat.le_refl _, HG.out.2.2.1, H3.out.2.1.trans HG.out.2.2.2⟩
            --A>
          by_cases h2 : x.kind = 2
          · --<B
            have Hnin : Hid (x.nin5 K1 = K1 ++ [(x.name, 3)]) := by show _ = _; unfold St.nin5 St.nadd; simp [h2]
            have hq1 : (x.kind == 1) = false := by simp [h1]
            have hq2 : (x.kind == 2) = true := by simp [h2]
            clear h1 h2
            go_upto_region 11 with (fail)
            refine wp_region_heldZ (S := fun w => w.cell? ⟨c, 2, none⟩ = some (.slice a6 m6 cap6) ∧ w.cell? ⟨X, 1, none⟩ = some (.string x.name)) (z := 12) rfl ?_
            change wpAnyZ _ _ _ _ _ _ _ _ _ w3.drew
            obtain ⟨W0, hW0⟩ : ∃ W0, W0 = w3.drew := ⟨_, rfl⟩
            rw [← hW0]
            have hb0 : Below w3.heap.size w3 W0 := by rw [hW0]; exact (Below.refl _ _).drew
            have Hb : Hid (W0.cell? ⟨c, 2, none⟩ = some (.slice a6 m6 cap6) ∧ W0.cell? ⟨X, 1, none⟩ = some (.string x.name)) := ⟨(hb0.cell (p := ⟨c, 2, none⟩) H3.out.1.in).trans H3.out.1.c2, (hb0.cell (p := ⟨X, 1, none⟩) (Nat.lt_of_lt_of_le qX q3)).trans j1⟩
            have HF0 := Lib.hid hb0
            clear hb0 hW0 j0 j1 j5 j6 j7 c2
            refine wpAnyZ_take (i := 0) (by simp only [List.getElem?_toArray, List.getElem?_cons_zero]; rfl) (by kernel_rfl) (by kernel_rfl) (by kernel_rfl) (by kernel_rfl) (by intro _ _ _ h; exact h) (Or.inl ⟨by rfl, fun w hw => by (have k0 := hw.1; have k1 := hw.2; go_simp; try rfl)⟩) Hb.out ?_
            refine wpAnyZ_take (i := 1) (by simp only [List.getElem?_toArray, List.getElem?_cons_succ, List.getElem?_cons_zero]; rfl) (by kernel_rfl) (by kernel_rfl) (by kernel_rfl) (by kernel_rfl) (by intro _ _ _ h; exact h) (Or.inl ⟨by rfl, fun w hw => by (have k0 := hw.1; have k1 := hw.2; go_simp; try rfl)⟩) Hb.out ?_
            go_frame
            refine wpAnyZ_take (i := 2) (by simp only [List.getElem?_toArray, List.getElem?_cons_succ, List.getElem?_cons_zero]; rfl) (by kernel_rfl) (by kernel_rfl) (by kernel_rfl) (by kernel_rfl) (by intro _ _ _ h; exact h) (Or.inl ⟨by rfl, fun w hw => by (have k0 := hw.1; have k1 := hw.2; go_simp; try rfl)⟩) Hb.out ?_
            refine wpAnyZ_take (i := 3) (by simp only [List.getElem?_toArray, List.getElem?_cons_succ, List.getElem?_cons_zero]; rfl) (by kernel_rfl) (by kernel_rfl) (by kernel_rfl) (by kernel_rfl) (by intro _ _ _ h; exact h) (Or.inl ⟨by rfl, fun w hw => by (have k0 := hw.1; have k1 := hw.2; go_simp; try rfl)⟩) Hb.out ?_
            go_frame
            refine wpAnyZ_take (i := 4) (by simp only [List.getElem?_toArray, List.getElem?_cons_succ, List.getElem?_cons_zero]; rfl) (by kernel_rfl) (by kernel_rfl) (by kernel_rfl) (by kernel_rfl) (by intro _ _ _ h; exact h) (Or.inl ⟨by rfl, fun w hw => by (have k0 := hw.1; have k1 := hw.2; go_simp; try rfl)⟩) Hb.out ?_
            refine wpAnyZ_take (i := 5) (by simp only [List.getElem?_toArray, List.getElem?_cons_succ, List.getElem?_cons_zero]; rfl) (by kernel_rfl) (by kernel_rfl) (by kernel_rfl) (by kernel_rfl) (by intro _ _ _ h; exact h) (Or.inl ⟨by rfl, fun w hw => by (have k0 := hw.1; have k1 := hw.2; go_simp; try rfl)⟩) Hb.out ?_
            go_frame
            refine wpAnyZ_take (i := 6) (by simp only [List.getElem?_toArray, List.getElem?_cons_succ, List.getElem?_cons_zero]; rfl) (by kernel_rfl) (by kernel_rfl) (by kernel_rfl) (by kernel_rfl) (by intro _ _ _ h; exact h) (Or.inl ⟨by rfl, fun w hw => by (have k0 := hw.1; have k1 := hw.2; go_simp; try rfl)⟩) Hb.out ?_
            refine wpAnyZ_take (i := 7) (by simp only [List.getElem?_toArray, List.getElem?_cons_succ, List.getElem?_cons_zero]; rfl) (by kernel_rfl) (by kernel_rfl) (by kernel_rfl) (by kernel_rfl) (by intro _ _ _ h; exact h) (Or.inl ⟨by rfl, fun w hw => by (have k0 := hw.1; have k1 := hw.2; go_simp; try rfl)⟩) Hb.out ?_
            go_frame
            refine wpAnyZ_next (i := 8) (by kernel_rfl) (by simp only [List.getElem?_toArray, List.getElem?_cons_succ, List.getElem?_cons_zero]; rfl) (fun Kc hKc => ?_)
            go_simp
            obtain ⟨Z, hZ⟩ : ∃ Z, Z = W0.heap.size := ⟨_, rfl⟩
            obtain ⟨W7, hW7⟩ : ∃ w : World, w = W0.alloc (.cells #[.string x.name, .int .u8 97] 58) := ⟨_, rfl⟩
            rw [← hZ, ← hW7]
            have hb7 : Below W0.heap.size W0 W7 := by rw [hW7]; exact (Below.refl _ _).alloc (Nat.le_refl _) _
            have HZ : Hid ((W7.cell? ⟨Z, 0, none⟩ = some (.string x.name) ∧ W7.cell? ⟨Z, 1, none⟩ = some (.int .u8 97)) ∧ Z < W7.heap.size) := ⟨⟨by rw [hW7]; exact World.cell?_alloc_at _ _ _ _ hZ, by rw [hW7]; exact World.cell?_alloc_at _ _ _ _ hZ⟩, by rw [hW7, hZ]; simp⟩
            have HF7 : Hid (Below w3.heap.size w3 W7) := HF0.out.trans (hb7.mono HF0.out.size)
            have HK7 : Hid (OwnVars W7 (c + 1) (.slice a6 m6 cap6) K1) := (H3.out.1.later HF7.out).known
            have q7 : c < W7.heap.size := Nat.lt_of_lt_of_le H3.out.1.in HF7.out.size
            clear hb7 hZ hW7
            refine hKc.out _ _ (fun _ => ⟨(HF7.out.cell (p := ⟨c, 2, none⟩) H3.out.1.in).trans H3.out.1.c2, (HF7.out.cell (p := ⟨X, 1, none⟩) (Nat.lt_of_lt_of_le qX q3)).trans Hj1.out⟩) ?_
            clear hKc Kc
            try go_frame
            refine wpAnyZ_next (i := 9) (by kernel_rfl) (by simp only [List.getElem?_toArray, List.getElem?_cons_succ, List.getElem?_cons_zero]; rfl) (fun Kc hKc => ?_)
            rw [if_pos (by rfl)]
            refine append5_wp _ _ rfl (c + 1) (.slice a6 m6 cap6) K1 rfl HK7.out x.name 3 97 rfl Z rfl HZ.out (Nat.le_trans Hlen.out (by decide)) q7 ?_
            intro v4 W4 hown4 hg4 hfr4
            have HG := Lib.hid (H3.out.1.grow (k := 3) (by decide) HF7.out hown4 hg4 hfr4)
            obtain ⟨a4, n4, hv4, -⟩ := hown4.form
            obtain ⟨m4, hm4⟩ : ∃ m, m = (K1 ++ [(x.name, (3 : Int))]).length := ⟨_, rfl⟩
            rw [← hm4] at hv4
            subst hv4
            clear hm4 hown4 hg4 hfr4
            have HS4 : Hid (W4.cell? ⟨c, 2, none⟩ = some (.slice a6 m6 cap6) ∧ W4.cell? ⟨X, 1, none⟩ = some (.string x.name)) := ⟨HG.out.2.1.1, (HG.out.1.cell (p := ⟨X, 1, none⟩) (Nat.lt_of_lt_of_le qX q3) HnotK.out).trans Hj1.out⟩
            refine hKc.out _ _ (fun _ => HS4.out) ?_
            clear hKc Kc
            try go_frame
            refine wpAnyZ_next (i := 10) (by kernel_rfl) (by simp only [List.getElem?_toArray, List.getElem?_cons_succ, List.getElem?_cons_zero]; rfl) (fun Kc hKc => ?_)
            go_simp
            refine hKc.out _ _ (fun _ => HS4.out) ?_
            clear hKc Kc
            try go_frame
            refine wpAnyZ_next (i := 11) (by kernel_rfl) (by simp only [List.getElem?_toArray, List.getElem?_cons_succ, List.getElem?_cons_zero]; rfl) (fun Kc hKc => ?_)
            go_simp
            refine hKc.out _ _ (fun _ => HS4.out) ?_
            clear hKc Kc
            try go_frame
            refine wpAnyZ_next (i := 12) (by kernel_rfl) (by simp only [List.getElem?_toArray, List.getElem?_cons_succ, List.getElem?_cons_zero]; rfl) (fun Kc hKc => ?_)
            have z4 := HG.out.2.1.1
            have z5 := HG.out.2.1.2
            go_simp
            refine hKc.out _ _ (fun h => absurd rfl h) ?_
            clear hKc Kc z4 z5
            refine wpAnyZ_done (by kernel_rfl) ?_ _
            go_wp2_with fail
            go_meet
            case rel => exact ⟨_, [(x.name, 3)], by rw [Hnin.out], Nat.le_refl _, HG.out.2.2.1, H3.out.2.1.trans HG.out.2.2.2⟩
            --B>
          by_cases h7 : x.kind = 7
          · --<C
            have Hnin : Hid (x.nin5 K1 = K1 ++ [(x.name, 4)]) := by show _ = _; unfold St.nin5 St.nadd; simp [h7]
            have hq1 : (x.kind == 1) = false := by simp [h1]
            have hq2 : (x.kind == 2) = false := by simp [h2]
            have hq7 : (x.kind == 7) = true := by simp [h7]
            clear h1 h2 h7
            go_upto_region 13 with (fail)
            refine wp_region_heldZ (S := fun w => w.cell? ⟨c, 2, none⟩ = some (.slice a6 m6 cap6) ∧ w.cell? ⟨X, 1, none⟩ = some (.string x.name)) (z := 12) rfl ?_
            change wpAnyZ _ _ _ _ _ _ _ _ _ w3.drew
            obtain ⟨W0, hW0⟩ : ∃ W0, W0 = w3.drew := ⟨_, rfl⟩
            rw [← hW0]
            have hb0 : Below w3.heap.size w3 W0 := by rw [hW0]; exact (Below.refl _ _).drew
            have Hb : Hid (W0.cell? ⟨c, 2, none⟩ = some (.slice a6 m6 cap6) ∧ W0.cell? ⟨X, 1, none⟩ = some (.string x.name)) := ⟨(hb0.cell (p := ⟨c, 2, none⟩) H3.out.1.in).trans H3.out.1.c2, (hb0.cell (p := ⟨X, 1, none⟩) (Nat.lt_of_lt_of_le qX q3)).trans j1⟩
            have HF0 := Lib.hid hb0
            clear hb0 hW0 j0 j1 j5 j6 j7 c2
            refine wpAnyZ_take (i := 0) (by simp only [List.getElem?_toArray, List.getElem?_cons_zero]; rfl) (by kernel_rfl) (by kernel_rfl) (by kernel_rfl) (by kernel_rfl) (by intro _ _ _ h; exact h) (Or.inl ⟨by rfl, fun w hw => by (have k0 := hw.1; have k1 := hw.2; go_simp; try rfl)⟩) Hb.out ?_
            refine wpAnyZ_take (i := 1) (by simp only [List.getElem?_toArray, List.getElem?_cons_succ, List.getElem?_cons_zero]; rfl) (by kernel_rfl) (by kernel_rfl) (by kernel_rfl) (by kernel_rfl) (by intro _ _ _ h; exact h) (Or.inl ⟨by rfl, fun w hw => by (have k0 := hw.1; have k1 := hw.2; go_simp; try rfl)⟩) Hb.out ?_
            go_frame
            refine wpAnyZ_take (i := 2) (by simp only [List.getElem?_toArray, List.getElem?_cons_succ, List.getElem?_cons_zero]; rfl) (by kernel_rfl) (by kernel_rfl) (by kernel_rfl) (by kernel_rfl) (by intro _ _ _ h; exact h) (Or.inl ⟨by rfl, fun w hw => by (have k0 := hw.1; have k1 := hw.2; go_simp; try rfl)⟩) Hb.out ?_
            refine wpAnyZ_take (i := 3) (by simp only [List.getElem?_toArray, List.getElem?_cons_succ, List.getElem?_cons_zero]; rfl) (by kernel_rfl) (by kernel_rfl) (by kernel_rfl) (by kernel_rfl) (by intro _ _ _ h; exact h) (Or.inl ⟨by rfl, fun w hw => by (have k0 := hw.1; have k1 := hw.2; go_simp; try rfl)⟩) Hb.out ?_
            go_frame
            refine wpAnyZ_take (i := 4) (by simp only [List.getElem?_toArray, List.getElem?_cons_succ, List.getElem?_cons_zero]; rfl) (by kernel_rfl) (by kernel_rfl) (by kernel_rfl) (by kernel_rfl) (by intro _ _ _ h; exact h) (Or.inl ⟨by rfl, fun w hw => by (have k0 := hw.1; have k1 := hw.2; go_simp; try rfl)⟩) Hb.out ?_
            refine wpAnyZ_take (i := 5) (by simp only [List.getElem?_toArray, List.getElem?_cons_succ, List.getElem?_cons_zero]; rfl) (by kernel_rfl) (by kernel_rfl) (by kernel_rfl) (by kernel_rfl) (by intro _ _ _ h; exact h) (Or.inl ⟨by rfl, fun w hw => by (have k0 := hw.1; have k1 := hw.2; go_simp; try rfl)⟩) Hb.out ?_
            go_frame
            refine wpAnyZ_take (i := 6) (by simp only [List.getElem?_toArray, List.getElem?_cons_succ, List.getElem?_cons_zero]; rfl) (by kernel_rfl) (by kernel_rfl) (by kernel_rfl) (by kernel_rfl) (by intro _ _ _ h; exact h) (Or.inl ⟨by rfl, fun w hw => by (have k0 := hw.1; have k1 := hw.2; go_simp; try rfl)⟩) Hb.out ?_
            refine wpAnyZ_take (i := 7) (by simp only [List.getElem?_toArray, List.getElem?_cons_succ, List.getElem?_cons_zero]; rfl) (by kernel_rfl) (by kernel_rfl) (by kernel_rfl) (by kernel_rfl) (by intro _ _ _ h; exact h) (Or.inl ⟨by rfl, fun w hw => by (have k0 := hw.1; have k1 := hw.2; go_simp; try rfl)⟩) Hb.out ?_
            go_frame
            refine wpAnyZ_next (i := 8) (by kernel_rfl) (by simp only [List.getElem?_toArray, List.getElem?_cons_succ, List.getElem?_cons_zero]; rfl) (fun Kc hKc => ?_)
            go_simp
            obtain ⟨Z, hZ⟩ : ∃ Z, Z = W0.heap.size := ⟨_, rfl⟩
            obtain ⟨W7, hW7⟩ : ∃ w : World, w = W0.alloc (.cells #[.string x.name, .int .u8 108] 58) := ⟨_, rfl⟩
            rw [← hZ, ← hW7]
            have hb7 : Below W0.heap.size W0 W7 := by rw [hW7]; exact (Below.refl _ _).alloc (Nat.le_refl _) _
            have HZ : Hid ((W7.cell? ⟨Z, 0, none⟩ = some (.string x.name) ∧ W7.cell? ⟨Z, 1, none⟩ = some (.int .u8 108)) ∧ Z < W7.heap.size) := ⟨⟨by rw [hW7]; exact World.cell?_alloc_at _ _ _ _ hZ, by rw [hW7]; exact World.cell?_alloc_at _ _ _ _ hZ⟩, by rw [hW7, hZ]; simp⟩
            have HF7 : Hid (Below w3.heap.size w3 W7) := HF0.out.trans (hb7.mono HF0.out.size)
            have HK7 : Hid (OwnVars W7 (c + 1) (.slice a6 m6 cap6) K1) := (H3.out.1.later HF7.out).known
            have q7 : c < W7.heap.size := Nat.lt_of_lt_of_le H3.out.1.in HF7.out.size
            clear hb7 hZ hW7
            refine hKc.out _ _ (fun _ => ⟨(HF7.out.cell (p := ⟨c, 2, none⟩) H3.out.1.in).trans H3.out.1.c2, (HF7.out.cell (p := ⟨X, 1, none⟩) (Nat.lt_of_lt_of_le qX q3)).trans Hj1.out⟩) ?_
            clear hKc Kc
            try go_frame
            refine wpAnyZ_next (i := 9) (by kernel_rfl) (by simp only [List.getElem?_toArray, List.getElem?_cons_succ, List.getElem?_cons_zero]; rfl) (fun Kc hKc => ?_)
            rw [if_pos (by rfl)]
            refine append5_wp _ _ rfl (c + 1) (.slice a6 m6 cap6) K1 rfl HK7.out x.name 4 108 rfl Z rfl HZ.out (Nat.le_trans Hlen.out (by decide)) q7 ?_
            intro v4 W4 hown4 hg4 hfr4
            have HG := Lib.hid (H3.out.1.grow (k := 4) (by decide) HF7.out hown4 hg4 hfr4)
            obtain ⟨a4, n4, hv4, -⟩ := hown4.form
            obtain ⟨m4, hm4⟩ : ∃ m, m = (K1 ++ [(x.name, (4 : Int))]).length := ⟨_, rfl⟩
            rw [← hm4] at hv4
            subst hv4
            clear hm4 hown4 hg4 hfr4
            have HS4 : Hid (W4.cell? ⟨c, 2, none⟩ = some (.slice a6 m6 cap6) ∧ W4.cell? ⟨X, 1, none⟩ = some (.string x.name)) := ⟨HG.out.2.1.1, (HG.out.1.cell (p := ⟨X, 1, none⟩) (Nat.lt_of_lt_of_le qX q3) HnotK.out).trans Hj1.out⟩
            refine hKc.out _ _ (fun _ => HS4.out) ?_
            clear hKc Kc
            try go_frame
            refine wpAnyZ_next (i := 10) (by kernel_rfl) (by simp only [List.getElem?_toArray, List.getElem?_cons_succ, List.getElem?_cons_zero]; rfl) (fun Kc hKc => ?_)
            go_simp
            refine hKc.out _ _ (fun _ => HS4.out) ?_
            clear hKc Kc
            try go_frame
            refine wpAnyZ_next (i := 11) (by kernel_rfl) (by simp only [List.getElem?_toArray, List.getElem?_cons_succ, List.getElem?_cons_zero]; rfl) (fun Kc hKc => ?_)
            go_simp
            refine hKc.out _ _ (fun _ => HS4.out) ?_
            clear hKc Kc
            try go_frame
            refine wpAnyZ_next (i := 12) (by kernel_rfl) (by simp only [List.getElem?_toArray, List.getElem?_cons_succ, List.getElem?_cons_zero]; rfl) (fun Kc hKc => ?_)
            have z4 := HG.out.2.1.1
            have z5 := HG.out.2.1.2
            go_simp
            refine hKc.out _ _ (fun h => absurd rfl h) ?_
            clear hKc Kc z4 z5
            refine wpAnyZ_done (by kernel_rfl) ?_ _
            go_wp2_with fail
            go_meet
            case rel => exact ⟨_, [(x.name, 4)], by rw [Hnin.out], Nat.le_refl _, HG.out.2.2.1, H3.out.2.1.trans HG.out.2.2.2⟩
            --C>
          · have Hnin : Hid (x.nin5 K1 = K1 ++ []) := by show _ = _; unfold St.nin5 St.nadd; simp [h1, h2, h7]
            have hq1 : (x.kind == 1) = false := by simp [h1]
            have hq2 : (x.kind == 2) = false := by simp [h2]
            have hq7 : (x.kind == 7) = false := by simp [h7]
            clear h1 h2 h7
            go_wp2_with fail
            go_meet
            case rel => exact ⟨_, [], Hnin.out, by decide, by rw [List.append_nil]; exact H3.out.1, H3.out.2.1⟩
        case rest =>
          --<D
          obtain ⟨kv3, D3, hnin, hD3, hk4, hs4⟩ := hcut
          obtain ⟨V, hV⟩ : ∃ V : World, V = wc := ⟨_, rfl⟩
          subst hV
          obtain ⟨K2, hK2⟩ : ∃ K2, K2 = K1 ++ D3 := ⟨_, rfl⟩
          rw [← hK2] at hk4 hnin
          have Hbt : Hid (ni + 1 + St.totals x.body + Cs.totals x.cases + St.totals x.els ≤ 1000000 ∧ K2.length + (St.totals x.body + Cs.totals x.cases + St.totals x.els) ≤ 90000) := by
            have h1 := St.totals_take Hx.out.1
            have h2 := St.totals_le (l := l) (i + 1)
            have h3 := x.total_eq
            have h4 := St.r5chks_le F (l.take i) K
            have h5 := Hp.out.2.1
            have h6 := Hbd.out
            have h7 := len_tot5 (l.take i)
            have h8 : (l.take i).length = i := by rw [List.length_take, ← Hn.out]; omega
            have h9 := Hi.out.2.2.1
            have h10 := Hkn.out.1
            have h11 := H3.out.2.2.1
            constructor
            · omega
            · rw [hK2, h11]; simp; omega
          have H4 := Lib.hid (And.intro hk4 (And.intro hs4 (And.intro hnin (And.intro hD3 hK2))))
          have HB4 : Hid (Below w0.heap.size w0 V) := hs4.below5 H1.out.2.2 HB1.out hcb
          obtain ⟨i0, i1, i2, i3, i4, i5, i6, i7, i8, i9, i10, i11, i12, i13⟩ := H1.out.2.1.oth hs4.oth qX HnotX.out
          simp only [Nat.zero_add] at i11
          have Hcall := Lib.hid (Hx.out.2.1 V c vw kv3 K2 (ni + 1) e1 HB4.out hcb hk4 (by omega) (by have h := Hbt.out.1; omega) (by have h := Hbt.out.2; omega))
          clear hk4 hs4 hnin hD3 hK2 i0 i1 i2 i3 i4 i5 i6 i7 i8 i9 i10 i12 i13 j0 j1 j5 j6 j7 c2
          go_wp2_with fail
          refine Hcall.out.mono ?_
          rintro E w5 ⟨rfl, kv5, hk5, hs5⟩
          obtain ⟨p2, hp2⟩ : ∃ p, p = after (1, e1) (St.r5chks K2 F x.body) := ⟨_, rfl⟩
          have hk5' : W5At w5 c vw vf kv5 K2 (ni + (p2.1 : Int)) p2.2 := by rw [hp2]; exact W5At.after (r := (1, e1)) (hk5.to rfl (by simp) rfl)
          have Hp2 : Hid (p2.1 ≤ 1 + St.totals x.body) := by
            show _ ≤ _
            have h1 := after_fst_le (1, e1) (St.r5chks K2 F x.body)
            have h2 := St.r5chks_le F x.body K2
            rw [← hp2] at h1
            simp only at h1
            omega
          have H5 := Lib.hid (And.intro hk5' (And.intro (H4.out.2.1.trans hs5) hp2))
          have HB5 : Hid (Below w0.heap.size w0 w5) := (H4.out.2.1.trans hs5).below5 H1.out.2.2 HB1.out hcb
          clear hk5 hk5' hs5 hp2 i11 Hcall
          go_wp2_with fail
          go_loopg [7] nc (fun g iv wx => ∃ (j : Nat) (kvj : Value), g = nc - j ∧ iv = .int .i64 (j : Int) ∧ j ≤ nc ∧ W5At wx c vw vf kvj K2 (ni + ((after p2 (Cs.r5chks K2 F (x.cases.take j))).1 : Int)) (after p2 (Cs.r5chks K2 F (x.cases.take j))).2 ∧ WStep W1 wx c c c (.slice a6 m6 cap6) kvj)
          case atStart => exact ⟨0, kv5, rfl, rfl, Nat.zero_le _, by simpa [Cs.r5chks, after_zero] using H5.out.1, H5.out.2.1⟩
          case round =>
            obtain ⟨j, kvj, hgj, rfl, hj, hKj, hsj⟩ := hrel
            obtain ⟨s, hs⟩ : ∃ s, s = after p2 (Cs.r5chks K2 F (x.cases.take j)) := ⟨_, rfl⟩
            rw [← hs] at hKj
            have Hs := Lib.hid hs
            have Hgj := Lib.hid hgj
            have Hj := Lib.hid (And.intro hKj hsj)
            have HBj : Hid (Below w0.heap.size w0 wr) := hsj.below5 H1.out.2.2 HB1.out hcb
            have Hs1 : Hid (s.1 ≤ 1 + St.totals x.body + Cs.totals (x.cases.take j)) := by
              show _ ≤ _
              have h1 := after_fst_le p2 (Cs.r5chks K2 F (x.cases.take j))
              have h2 := Cs.r5chks_le F (x.cases.take j) K2
              have h3 := Hp2.out
              rw [← hs] at h1
              omega
            obtain ⟨i0, i1, i2, i3, i4, i5, i6, i7, i8, i9, i10, i11, i12, i14⟩ := H1.out.2.1.oth hsj.oth qX HnotX.out
            simp only [Nat.zero_add] at i12 i14
            clear hgj hs hKj hsj i1 i2 i3 i4 i5 i6 i7 i8 i9 i10 i11
            by_cases hjn : j < nc
            · obtain ⟨y, hy⟩ : ∃ y, x.cases[j]? = some y := ⟨_, List.getElem?_eq_getElem (by rw [← Hnc.out]; exact hjn)⟩
              obtain ⟨bx, ox, rfl, hbx, hPc⟩ := Hx.out.2.2.2.1.at (i := j) hjn
              obtain ⟨j0, j1⟩ := (hPc y hy).later HBj.out hbx
              obtain ⟨hsb, hib⟩ := Hx.out.2.2.2.2 j y hy
              obtain ⟨ay, cy, hvy, -⟩ := hsb.form
              obtain ⟨ny, hny⟩ : ∃ n, n = y.body.length := ⟨_, rfl⟩
              rw [hvy, ← hny] at j1 hib
              have hyt : St.totals y.body ≤ y.total := by rw [Cs.total_eq]; omega
              have htt := Cs.totals_take hy
              have htl := Cs.totals_le (l := x.cases) (j + 1)
              have Hcall := Lib.hid (hib wr c vw kvj K2 (ni + (s.1 : Int)) s.2 HBj.out hcb Hj.out.1 (by omega) (by have h1 := Hbt.out.1; have h4 := Hs1.out; omega) (by have h1 := Hbt.out.2; omega))
              have HY := Lib.hid hy
              clear hPc hy hsb hib hvy hny hyt htt htl i0 i12
              go_wp2_with fail
              refine Hcall.out.mono ?_
              rintro E w9 ⟨rfl, kv9, hK9, hs9⟩
              rw [← Cs.r5chk_eq K2 F y] at hK9
              have H9 := Lib.hid (And.intro hK9.after (Hj.out.2.trans hs9))
              clear hK9 hs9 j0 j1 i14 Hcall
              go_wp2_with fail
              go_roundg (nc - (j + 1))
              case measure => have := Hgj.out; omega
              case rel =>
                have hst : after s (y.r5chk K2 F) = after p2 (Cs.r5chks K2 F (x.cases.take (j + 1))) := by rw [Hs.out, after_assoc, ← Cs.r5chks_next HY.out]
                exact ⟨j + 1, kv9, rfl, by go_num, by omega, by rw [← hst]; exact H9.out.1, H9.out.2⟩
            · obtain rfl : nc = j := by omega
              have htk : x.cases.take nc = x.cases := List.take_of_length_le (by rw [← Hnc.out]; exact Nat.le_refl _)
              have hbound : ni + (s.1 : Int) + (St.totals x.els : Int) ≤ 1000000 := by
                have h1 := Hbt.out.1
                have h4 := Hs1.out
                rw [htk] at h4
                omega
              have Hcall := Lib.hid (Hx.out.2.2.1 wr c vw kvj K2 (ni + (s.1 : Int)) s.2 HBj.out hcb Hj.out.1 (by omega) hbound (by have h1 := Hbt.out.2; omega))
              have Htk := Lib.hid htk
              clear hjn htk hbound i0
              go_wp2_with fail
              refine Hcall.out.mono ?_
              rintro E w9 ⟨rfl, kv9, hK9, hs9⟩
              obtain ⟨p, hpp⟩ : ∃ p, p = after s (St.r5chks K2 F x.els) := ⟨_, rfl⟩
              have hk9 := hK9.after
              rw [← hpp] at hk9
              have Hpx : Hid (p = x.r5chk K1 F) := by
                show _ = _
                rw [hpp, Hs.out, Htk.out, H5.out.2.2, H4.out.2.2.2.2, St.r5chk_eq, ← H3.out.2.2.2, after_assoc, after_assoc, ← H4.out.2.2.2.2, H4.out.2.2.1]
              have hs19 := Hj.out.2.trans hs9
              have HB9 : Hid (Below w0.heap.size w0 w9) := hs19.below5 H1.out.2.2 HB1.out hcb
              obtain ⟨i0, i1, i2, i3, i4, i5, i6, i7, i8, i9, i10, i11, i13, i15⟩ := H1.out.2.1.oth hs19.oth qX HnotX.out
              have Hall : Hid (WStep W w9 c c c kv kv9) := Hi.out.2.1.trans ((WStep.of_below H1.out.1).trans hs19)
              have Hrel : Hid (∀ (wz : World) (kvz : Value) (D4 : Known), x.nadd K1 = K1 ++ D4 → D4.length ≤ 1 → W5At wz c vw vf kvz (K1 ++ D4) (ni + (p.1 : Int)) p.2 → WStep w9 wz c c c kv9 kvz →
                  ∃ (i' : Nat) (ei ni' : Int) (kvi : Value) (D' : Known), n - (i + 1) = n - i' ∧ (Value.int .i64 (((i + 1 : Nat) : Int))) = .int .i64 (i' : Int) ∧ i' ≤ n ∧ W5At wz c vw vf kvi (K ++ D') ni' ei ∧ WStep W wz c c c kv kvi ∧ D'.length ≤ i' ∧
    ((ei = 0 ∧ e0 = 0 ∧ ni' = n0 + ((St.r5chks K F (l.take i')).1 : Int) ∧ (St.r5chks K F (l.take i')).2 = 0 ∧ K ++ D' = kAfter K (l.take i')) ∨ (ei ≠ 0 ∧ keepE e0 (St.r5chks K F l).2 = ei ∧ n0 + goN e0 (St.r5chks K F l).1 = ni'))) := by
                intro wz kvz D4 hna hD4 hkz hsz
                have hK1 := H3.out.2.2.1
                have hka := Hp.out.2.2.2
                have hnx := St.r5chks_next (K := K) (F := F) Hx.out.1
                rw [← hka, ← hK1, ← Hpx.out, after_ok Hp.out.2.2.1] at hnx
                refine ⟨i + 1, p.2, ni + (p.1 : Int), kvz, D ++ D4, rfl, rfl, hin, by rw [← List.append_assoc, ← hK1]; exact hkz, Hall.out.trans hsz, by have h2 := Hi.out.2.2.1; simp; omega, ?_⟩
                by_cases hz : p.2 = 0
                · refine .inl ⟨hz, Hp.out.1, by rw [hnx, Hp.out.2.1]; simp only; omega, by rw [hnx]; exact hz, by rw [← List.append_assoc, ← hK1, ← hna, hK1, hka, kAfter_take Hx.out.1]⟩
                · have hh := St.r5chks_stop (K := K) (F := F) (l := l) (i := i + 1) (by rw [hnx]; exact hz)
                  rw [hnx] at hh
                  refine .inr ⟨hz, by rw [hh, Hp.out.1, keepE_zero], by rw [hh, Hp.out.1, goN_zero, Hp.out.2.1]; simp only; omega⟩
              have H9 := Lib.hid (And.intro hk9 hpp)
              clear hK9 hs9 hk9 hpp hs19 i12 i14 i1 i2 i3 i4 i5 i6 i7 i8 i9 i10 i11 i13 i15 Hcall
              by_cases h7 : x.kind = 7
              · have hq7 : (x.kind == 7) = true := by simp [h7]
                have Hna : Hid (x.nadd K1 = K1 ++ [] ∧ K2 = K1 ++ [(x.name, 4)]) := by
                  constructor
                  · unfold St.nadd; simp [h7]
                  · rw [← H4.out.2.2.1]; unfold St.nin5; rw [if_pos h7]
                obtain ⟨a9, cap9, hkv9, hcap9, -⟩ := H9.out.1.known.form
                obtain ⟨m9, hm9⟩ : ∃ m9, m9 = K1.length := ⟨_, rfl⟩
                have hl9 : K2.length = m9 + 1 := by rw [Hna.out.2, hm9]; simp
                rw [hl9] at hkv9 hcap9
                obtain ⟨W0, hW0⟩ : ∃ W0, W0 = w9.drew := ⟨_, rfl⟩
                have hb0 : Below w9.heap.size w9 W0 := by rw [hW0]; exact (Below.refl _ _).drew
                have hcut := H9.out.1.later hb0
                rw [hkv9] at hcut
                have hcut2 := hcut.cut (j := m9) (by omega)
                have htk2 : K2.take m9 = K1 ++ [] := by rw [Hna.out.2, hm9, List.append_nil]; exact List.take_left' rfl
                rw [htk2] at hcut2
                have Hcut : Hid (W5At (W0.setCell ⟨c, 2, none⟩ (.slice a9 m9 cap9)) c vw vf (.slice a9 m9 cap9) (K1 ++ []) (ni + (p.1 : Int)) p.2 ∧ WStep w9 (W0.setCell ⟨c, 2, none⟩ (.slice a9 m9 cap9)) c c c kv9 (.slice a9 m9 cap9)) := ⟨hcut2, (WStep.of_below hb0).trans (by rw [hkv9]; exact .cut5)⟩
                have hm62 : m9 ≤ 100000 := by have h := Hlen.out; omega
                have Hd : Hid (W0.cell? ⟨c, 2, none⟩ = some (.slice a9 (m9 + 1) cap9)) := hcut.c2
                have Hd3 := Lib.hid (hcut.f 2 (by decide))
                have HW0 := Lib.hid hW0
                have hm91 : ((m9 : Int) + 1 - 1) = (m9 : Int) := by omega
                have hcm : m9 ≤ cap9 := by omega
                have hwr9 : IntKind.i64.wrap (m9 : Int) = (m9 : Int) := IntWalk.i64_in _ (by omega)
                have hcm0 : (0 : Int) ≤ (m9 : Int) := by omega
                have hcm1 : (m9 : Int) ≤ (cap9 : Int) := by omega
                have htn : ((m9 : Int)).toNat = m9 := by omega
                clear h7 hcut hcut2 htk2 hm9 hl9 hkv9 hb0 hW0
                go_upto_region 21 with (fail)
                refine wp_region_heldZ (S := fun w => w.cell? ⟨c, 2, none⟩ = some (.slice a9 (m9 + 1) cap9)) (z := 14) rfl ?_
                change wpAnyZ _ _ _ _ _ _ _ _ _ w9.drew
                rw [← HW0.out]
                refine wpAnyZ_take (i := 0) (by simp only [List.getElem?_toArray, List.getElem?_cons_zero]; rfl) (by kernel_rfl) (by kernel_rfl) (by kernel_rfl) (by kernel_rfl) (by intro _ _ _ h; exact h) (Or.inl ⟨by rfl, fun w hw => by (have k0 := hw; go_simp; try rfl)⟩) Hd.out ?_
                refine wpAnyZ_take (i := 1) (by simp only [List.getElem?_toArray, List.getElem?_cons_succ, List.getElem?_cons_zero]; rfl) (by kernel_rfl) (by kernel_rfl) (by kernel_rfl) (by kernel_rfl) (by intro _ _ _ h; exact h) (Or.inl ⟨by rfl, fun w hw => by (have k0 := hw; go_simp; try rfl)⟩) Hd.out ?_
                go_frame
                refine wpAnyZ_take (i := 2) (by simp only [List.getElem?_toArray, List.getElem?_cons_succ, List.getElem?_cons_zero]; rfl) (by kernel_rfl) (by kernel_rfl) (by kernel_rfl) (by kernel_rfl) (by intro _ _ _ h; exact h) (Or.inl ⟨by rfl, fun w hw => by (have k0 := hw; go_simp; try rfl)⟩) Hd.out ?_
                refine wpAnyZ_take (i := 3) (by simp only [List.getElem?_toArray, List.getElem?_cons_succ, List.getElem?_cons_zero]; rfl) (by kernel_rfl) (by kernel_rfl) (by kernel_rfl) (by kernel_rfl) (by intro _ _ _ h; exact h) (Or.inl ⟨by rfl, fun w hw => by (have k0 := hw; go_simp; try rfl)⟩) Hd.out ?_
                go_frame
                refine wpAnyZ_take (i := 4) (by simp only [List.getElem?_toArray, List.getElem?_cons_succ, List.getElem?_cons_zero]; rfl) (by kernel_rfl) (by kernel_rfl) (by kernel_rfl) (by kernel_rfl) (by intro _ _ _ h; exact h) (Or.inl ⟨by rfl, fun w hw => by (have k0 := hw; go_simp; try rfl)⟩) Hd.out ?_
                refine wpAnyZ_take (i := 5) (by simp only [List.getElem?_toArray, List.getElem?_cons_succ, List.getElem?_cons_zero]; rfl) (by kernel_rfl) (by kernel_rfl) (by kernel_rfl) (by kernel_rfl) (by intro _ _ _ h; exact h) (Or.inl ⟨by rfl, fun w hw => by (have k0 := hw; go_simp; try rfl)⟩) Hd.out ?_
                go_frame
                refine wpAnyZ_take (i := 6) (by simp only [List.getElem?_toArray, List.getElem?_cons_succ, List.getElem?_cons_zero]; rfl) (by kernel_rfl) (by kernel_rfl) (by kernel_rfl) (by kernel_rfl) (by intro _ _ _ h; exact h) (Or.inl ⟨by rfl, fun w hw => by (have k0 := hw; go_simp; try rfl)⟩) Hd.out ?_
                refine wpAnyZ_take (i := 7) (by simp only [List.getElem?_toArray, List.getElem?_cons_succ, List.getElem?_cons_zero]; rfl) (by kernel_rfl) (by kernel_rfl) (by kernel_rfl) (by kernel_rfl) (by intro _ _ _ h; exact h) (Or.inl ⟨by rfl, fun w hw => by (have k0 := hw; go_simp; try rfl)⟩) Hd.out ?_
                go_frame
                refine wpAnyZ_take (i := 8) (by simp only [List.getElem?_toArray, List.getElem?_cons_succ, List.getElem?_cons_zero]; rfl) (by kernel_rfl) (by kernel_rfl) (by kernel_rfl) (by kernel_rfl) (by intro _ _ _ h; exact h) (Or.inl ⟨by rfl, fun w hw => by (have k0 := hw; go_simp; try rfl)⟩) Hd.out ?_
                refine wpAnyZ_take (i := 9) (by simp only [List.getElem?_toArray, List.getElem?_cons_succ, List.getElem?_cons_zero]; rfl) (by kernel_rfl) (by kernel_rfl) (by kernel_rfl) (by kernel_rfl) (by intro _ _ _ h; exact h) (Or.inl ⟨by rfl, fun w hw => by (have k0 := hw; go_simp; try rfl)⟩) Hd.out ?_
                go_frame
                refine wpAnyZ_take (i := 10) (by simp only [List.getElem?_toArray, List.getElem?_cons_succ, List.getElem?_cons_zero]; rfl) (by kernel_rfl) (by kernel_rfl) (by kernel_rfl) (by kernel_rfl) (by intro _ _ _ h; exact h) (Or.inl ⟨by rfl, fun w hw => by (have k0 := hw; go_simp; try rfl)⟩) Hd.out ?_
                refine wpAnyZ_take (i := 11) (by simp only [List.getElem?_toArray, List.getElem?_cons_succ, List.getElem?_cons_zero]; rfl) (by kernel_rfl) (by kernel_rfl) (by kernel_rfl) (by kernel_rfl) (by intro _ _ _ h; exact h) (Or.inl ⟨by rfl, fun w hw => by (have k0 := hw; go_simp; try rfl)⟩) Hd.out ?_
                go_frame
                refine wpAnyZ_next (i := 12) (by kernel_rfl) (by simp only [List.getElem?_toArray, List.getElem?_cons_succ, List.getElem?_cons_zero]; rfl) (fun Kc hKc => ?_)
                go_simp
                refine hKc.out _ _ (fun _ => Hd.out) ?_
                clear hKc Kc
                try go_frame
                refine wpAnyZ_next (i := 13) (by kernel_rfl) (by simp only [List.getElem?_toArray, List.getElem?_cons_succ, List.getElem?_cons_zero]; rfl) (fun Kc hKc => ?_)
                go_simp
                refine hKc.out _ _ (fun _ => Hd.out) ?_
                clear hKc Kc
                try go_frame
                refine wpAnyZ_next (i := 14) (by kernel_rfl) (by simp only [List.getElem?_toArray, List.getElem?_cons_succ, List.getElem?_cons_zero]; rfl) (fun Kc hKc => ?_)
                have z4 := Hd.out
                have z5 := Hd3.out
                go_simp
                refine hKc.out _ _ (fun h => absurd rfl h) ?_
                clear hKc Kc z4 z5
                refine wpAnyZ_done (by kernel_rfl) ?_ _
                go_wp2_with fail
                go_roundg (n - (i + 1))
                case measure => have := Hg.out; omega
                case rel => exact Hrel.out _ _ [] Hna.out.1 (by decide) Hcut.out.1 Hcut.out.2
              · have hq7 : (x.kind == 7) = false := by simp [h7]
                have Hna : Hid (x.nadd K1 = K2) := by
                  show _ = _
                  rw [← H4.out.2.2.1]; unfold St.nin5; rw [if_neg h7]
                clear h7
                go_wp2_with fail
                go_roundg (n - (i + 1))
                case measure => have := Hg.out; omega
                case rel =>
                  have h := Hrel.out w9 kv9 D3 (by rw [Hna.out]; exact H4.out.2.2.2.2) H4.out.2.2.2.1 (by rw [← H4.out.2.2.2.2]; exact H9.out.1) (.refl _ _ _ _ _)
                  exact h
          --D>
      · have hq : (ei == 0) = false := by simp [hez]
        have Hez := Lib.hid (Hend.out fun h => hez h.1)
        clear hez
        go_wp2_with fail
        refine bodyPost_end (results_none rfl _ _ _) rfl ?_
        exact ⟨rfl, Hez.out⟩
    · have Hez := Lib.hid (Hend.out fun h => hin h.2)
      obtain rfl : n = i := by omega
      clear hin
      go_wp2_with fail
      refine bodyPost_end (results_none rfl _ _ _) rfl ?_
      exact ⟨rfl, Hez.out⟩
end Go.Proofs.YtgcplcffejbniaaGreat
