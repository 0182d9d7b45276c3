/- soffitlaw05.returns: is there a return among some statements. -/
import Derived.Test.YtgcplcffejbniaaRgWrap
namespace Go.Proofs.Ytgcplcffejbniaa
open Go.RowKit Go.Maps

def Rets (w0 : World) (l : List St) (v : Value) : Prop := ∀ W, Below w0.heap.size w0 W → Calls Try.prog 25 #[v] W (Gives (.bool (St.retsB l)) W)
set_option maxRecDepth 100000 in
set_option maxHeartbeats 8000000 in
theorem returns_any (w0 : World) (l : List St) (v : Value) (h : StsIn w0 l v) : Rets w0 l v := by
  induction h with
  | mk l v va vb vd ve vc vk h ha hb hd he hc hk ihd ihe ihk =>
  intro W hB
  obtain ⟨a, cap, rfl, hncap, hcap⟩ := h.form
  obtain ⟨n, hn⟩ : ∃ n, n = l.length := ⟨_, rfl⟩
  have Hn := Lib.hid hn
  have Hrow : Hid (RowOf w0 (.slice a n cap) l.length 14 (fun b o i => ∀ x, l[i]? = some x → StAt w0 b o x (va i) (vb i) (vd i) (ve i) (vc i))) := by rw [hn]; exact h
  have Hvals : Hid (∀ (i : Nat) x, l[i]? = some x → StVals w0 x (va i) (vb i) (vd i) (ve i) (vc i) (vk i)) := fun i x hx => ⟨ha i x hx, hb i x hx, hd i x hx, he i x hx, hc i x hx, fun j y hy => hk i x j y hx hy⟩
  have Hih := Lib.hid (And.intro ihd (And.intro ihe ihk))
  have HB := Lib.hid hB
  rw [← hn]
  rw [← hn] at hncap
  have hn62 : n ≤ 9223372036854775807 := by have : maxLen ≤ 9223372036854775807 := by decide
                                            omega
  obtain ⟨r, hr⟩ : ∃ r, r = St.retsB l := ⟨_, rfl⟩
  rw [← hr]
  have Hr := Lib.hid hr
  clear h ha hb hd he hc hk ihd ihe ihk hn hB hr
  go_enter Try.func25, Try.ntmps25
  go_wp2_with fail
  go_loopg [9] n (fun gg iv wx => ∃ i : Nat, gg = n - i ∧ iv = .int .i64 (i : Int) ∧ i ≤ n ∧ St.retsB (l.take i) = false ∧ Below W.heap.size W wx)
  case atStart => exact ⟨0, rfl, rfl, Nat.zero_le _, rfl, Below.refl _ _⟩
  case round =>
    obtain ⟨i, hg, rfl, hi, hp, hO⟩ := hrel
    have HK := Lib.hid (And.intro hp hO)
    have Hg := Lib.hid hg
    clear hp hg
    by_cases hin : i < n
    · obtain ⟨Wr, hWr⟩ : ∃ Wr : World, Wr = wr := ⟨_, rfl⟩
      subst hWr
      obtain ⟨x, hx⟩ : ∃ x, l[i]? = some x := ⟨_, List.getElem?_eq_getElem (by rw [← Hn.out]; exact hin)⟩
      obtain ⟨b, off, rfl, hb, hP⟩ := Hrow.out.at (i := i) (by rw [← Hn.out]; exact hin)
      have hB0 : Below w0.heap.size w0 Wr := HB.out.trans (hO.mono HB.out.size)
      have hst := (hP x hx).later hB0 hb
      have hvals := Hvals.out i x hx
      obtain ⟨aa, ca, hva, -⟩ := hvals.a.form
      obtain ⟨ab, cb, hvb, -⟩ := hvals.b.form
      obtain ⟨ad, cd, hvd, -⟩ := hvals.d.form
      obtain ⟨ae, ce, hve, -⟩ := hvals.e.form
      obtain ⟨ac, cc, hvc, hcc1, hcc2⟩ := hvals.c.form
      have fd : Rets w0 x.body (vd i) := Hih.out.1 i x hx
      have fe : Rets w0 x.els (ve i) := Hih.out.2.1 i x hx
      have fk : ∀ (j : Nat) y, x.cases[j]? = some y → StsIn w0 y.body (vk i j) ∧ Rets w0 y.body (vk i j) := fun j y hy => ⟨hvals.k j y hy, Hih.out.2.2 i x j y hx hy⟩
      obtain ⟨na, hna⟩ : ∃ n, n = x.a.args.length := ⟨_, rfl⟩
      obtain ⟨nb, hnb⟩ : ∃ n, n = x.b.args.length := ⟨_, rfl⟩
      obtain ⟨nd, hnd⟩ : ∃ n, n = x.body.length := ⟨_, rfl⟩
      obtain ⟨ne, hne⟩ : ∃ n, n = x.els.length := ⟨_, rfl⟩
      obtain ⟨nc, hnc⟩ : ∃ n, n = x.cases.length := ⟨_, rfl⟩
      have hrc := hvals.c
      rw [hva, hvb, hvd, hve, hvc, ← hna, ← hnb, ← hnd, ← hne, ← hnc] at hst
      rw [hvd, ← hnd] at fd
      rw [hve, ← hne] at fe
      rw [hvc, ← hnc] at hrc
      rw [← hnc] at hcc1
      have hnc62 : nc ≤ 9223372036854775807 := by have : maxLen ≤ 9223372036854775807 := by decide
                                                  omega
      obtain ⟨W2, hW2⟩ : ∃ W2, W2 = Wr.alloc (.cells #[.int .i64 x.kind, .string x.name, .int .i64 x.n, .int .i64 x.a.kind, .int .i64 x.a.n, .string x.a.name, .slice aa na ca, .int .i64 x.b.kind, .int .i64 x.b.n, .string x.b.name, .slice ab nb cb, .slice ad nd cd, .slice ae ne ce, .slice ac nc cc] 48) := ⟨_, rfl⟩
      obtain ⟨D, hD⟩ : ∃ D, D = Wr.heap.size := ⟨_, rfl⟩
      have hb2 : Below Wr.heap.size Wr W2 := by rw [hW2]; exact (Below.refl _ _).alloc (Nat.le_refl _) _
      have hs2 : StAt W2 D 0 x (.slice aa na ca) (.slice ab nb cb) (.slice ad nd cd) (.slice ae ne ce) (.slice ac nc cc) := by rw [hW2, hD]; exact StAt.box _ _ _ _ _ _ _ _
      have hO2 := hO.trans (hb2.mono hO.size)
      have H2 := Lib.hid (And.intro hO2 (And.intro (hB0.trans (hb2.mono hB0.size)) hs2))
      have HX := Lib.hid (And.intro hx (And.intro hnc hrc))
      have Hf := Lib.hid (And.intro fd (And.intro fe fk))
      have Hrx : Hid (x.retB = true → r = true) := fun h => by rw [Hr.out]; exact St.retsB_hit hx h
      have Hrb : Hid (x.retB = (decide (x.kind = 9) || (St.retsB x.body || (St.retsB x.els || Cs.retsB x.cases)))) := St.retB_eq x
      have HW2 := Lib.hid (And.intro hW2 hD)
      obtain ⟨i0, i1, i2, i3, i4, i5, i6, i7, i8, i9, i10, i11, i12, i13⟩ := hst
      clear hx hP hB0 hvals hva hvb hvd hve hvc hcc1 hcc2 fd fe fk hna hnb hnd hne hnc hrc hW2 hD hb2 hO hO2
      go_upto_region 4 with (fail)
      rw [← HW2.out.1, ← HW2.out.2]
      clear i0 i1 i2 i3 i4 i5 i6 i7 i8 i9 i10 i11 i12 i13
      obtain ⟨i0, i1, i2, i3, i4, i5, i6, i7, i8, i9, i10, i11, i12, i13⟩ := hs2
      simp only [Nat.zero_add] at i0 i1 i2 i3 i4 i5 i6 i7 i8 i9 i10 i11 i12 i13
      have hDl : D < W2.heap.size := block_lt_of_cell i0
      obtain ⟨kk, hkk⟩ : ∃ kk, kk = x.kind := ⟨_, rfl⟩
      rw [← hkk] at i0 Hrb
      clear i1 i2 i3 i4 i5 i6 i7 i8 i9 i10 hkk
      by_cases h9 : kk = 9
      · have Hres : Hid (r = true) := Hrx.out (by rw [Hrb.out, decide_eq_true h9]; rfl)
        subst h9
        go_wp2_with fail
        go_ret
        exact ⟨by rw [Hres.out]; try rfl, H2.out.1⟩
      · have q9 : (kk == 9) = false := by simp [h9]
        have Hcd := Lib.hid (Hf.out.1 W2 H2.out.2.1)
        rw [decide_eq_false h9, Bool.false_or] at Hrb
        clear h9
        go_wp2_with fail
        refine Hcd.out.mono ?_
        rintro e w3 ⟨rfl, hb3⟩
        obtain ⟨z, hz⟩ : ∃ z, z = St.retsB x.body := ⟨_, rfl⟩
        rw [← hz] at Hrb
        rw [← hz]
        have H3 := Lib.hid (And.intro (H2.out.1.trans (hb3.mono H2.out.1.size)) (H2.out.2.1.trans (hb3.mono H2.out.2.1.size)))
        have i12' := (hb3.cell (p := ⟨D, 12, none⟩) hDl).trans i12
        have i13' := (hb3.cell (p := ⟨D, 13, none⟩) hDl).trans i13
        have hDl3 : D < w3.heap.size := block_lt_of_cell i12'
        clear hz hb3 Hcd i0 i11 i12 i13
        cases z
        · have Hce := Lib.hid (Hf.out.2.1 w3 H3.out.2)
          rw [Bool.false_or] at Hrb
          go_wp2_with fail
          refine Hce.out.mono ?_
          rintro e w4 ⟨rfl, hb4⟩
          obtain ⟨z, hz⟩ : ∃ z, z = St.retsB x.els := ⟨_, rfl⟩
          rw [← hz] at Hrb
          rw [← hz]
          have H4 := Lib.hid (And.intro (H3.out.1.trans (hb4.mono H3.out.1.size)) (H3.out.2.trans (hb4.mono H3.out.2.size)))
          have j13 := (hb4.cell (p := ⟨D, 13, none⟩) hDl3).trans i13'
          clear hz hb4 Hce i12' i13'
          cases z
          · rw [Bool.false_or] at Hrb
            go_wp2_with fail
            clear j13
            go_loopg [29] nc (fun gg jv wx => ∃ j : Nat, gg = nc - j ∧ jv = .int .i64 (j : Int) ∧ j ≤ nc ∧ Cs.retsB (x.cases.take j) = false ∧ Below w4.heap.size w4 wx)
            case atStart => exact ⟨0, rfl, rfl, Nat.zero_le _, rfl, Below.refl _ _⟩
            case round =>
              obtain ⟨j, hg2, rfl, hj, hpj, hbj⟩ := hrel
              have Hj := Lib.hid (And.intro hpj hbj)
              have Hg2 := Lib.hid hg2
              clear hpj hg2
              by_cases hjn : j < nc
              · obtain ⟨y, hy⟩ : ∃ y, x.cases[j]? = some y := ⟨_, List.getElem?_eq_getElem (by rw [← HX.out.2.1]; exact hjn)⟩
                obtain ⟨bc, oc, rfl, hbc, hPc⟩ := HX.out.2.2.at (i := j) hjn
                have hB0 : Below w0.heap.size w0 wr := H4.out.2.trans (hbj.mono H4.out.2.size)
                have hcs := (hPc y hy).later hB0 hbc
                obtain ⟨hsy, hcl⟩ := Hf.out.2.2 j y hy
                obtain ⟨ay, cy, hvy, -⟩ := hsy.form
                obtain ⟨ny, hny⟩ : ∃ n, n = y.body.length := ⟨_, rfl⟩
                rw [hvy, ← hny] at hcs hcl
                obtain ⟨W5, hW5⟩ : ∃ W5, W5 = wr.alloc (.cells #[.int .i64 y.n, .slice ay ny cy] 86) := ⟨_, rfl⟩
                obtain ⟨D5, hD5⟩ : ∃ D, D = wr.heap.size := ⟨_, rfl⟩
                have hb5 : Below wr.heap.size wr W5 := by rw [hW5]; exact (Below.refl _ _).alloc (Nat.le_refl _) _
                have hc5 : W5.cell? ⟨D5, 1, none⟩ = some (.slice ay ny cy) := by rw [hW5, hD5]; exact World.cell?_alloc_at _ _ _ _ rfl
                have hb45 := hbj.trans (hb5.mono hbj.size)
                have Hcall := Lib.hid (hcl W5 (H4.out.2.trans (hb45.mono H4.out.2.size)))
                have H5 := Lib.hid hb45
                have HW5 := Lib.hid (And.intro hW5 hD5)
                have Hhit : Hid (St.retsB y.body = true → r = true) := fun h => Hrx.out (by rw [Hrb.out]; exact Cs.retsB_hit hy (by rw [Cs.retB_eq]; exact h))
                have Hy := Lib.hid hy
                obtain ⟨j0, j1⟩ := hcs
                clear hy hPc hB0 hsy hcl hvy hny hb5 hb45 hW5 hD5 hbj hbc
                go_upto_region 9 with (fail)
                rw [← HW5.out.1, ← HW5.out.2]
                clear j0 j1
                go_wp2_with fail
                refine Hcall.out.mono ?_
                rintro e w6 ⟨rfl, hb6⟩
                obtain ⟨z, hz⟩ : ∃ z, z = St.retsB y.body := ⟨_, rfl⟩
                rw [← hz] at Hhit
                rw [← hz]
                have Hz := Lib.hid hz
                have H6 := Lib.hid (H5.out.trans (hb6.mono H5.out.size))
                clear hz hb6 hc5 Hcall
                cases z
                · go_wp2_with fail
                  go_roundg (nc - (j + 1))
                  case measure => have := Hg2.out; omega
                  case rel => exact ⟨j + 1, rfl, by go_num, hjn, by rw [Cs.retsB_next Hy.out, Hj.out.1, Cs.retB_eq, ← Hz.out]; rfl, H6.out⟩
                · have Hres : Hid (r = true) := Hhit.out rfl
                  go_wp2_with fail
                  go_ret
                  exact ⟨by rw [Hres.out]; try rfl, H4.out.1.trans (H6.out.mono H4.out.1.size)⟩
              · obtain rfl : nc = j := by omega
                have Hxr : Hid (x.retB = false) := by
                  show _ = _
                  have h := Hj.out.1
                  rw [List.take_of_length_le (by rw [← HX.out.2.1]; exact Nat.le_refl _)] at h
                  rw [Hrb.out, h]
                clear hbj hjn
                go_wp2_with fail
                go_roundg (n - (i + 1))
                case measure => have := Hg.out; omega
                case rel => exact ⟨i + 1, rfl, by go_num, hin, by rw [St.retsB_next HX.out.1, HK.out.1, Hxr.out]; rfl, H4.out.1.trans (Hj.out.2.mono H4.out.1.size)⟩
          · have Hres : Hid (r = true) := Hrx.out (by rw [Hrb.out]; rfl)
            clear j13
            go_wp2_with fail
            go_ret
            exact ⟨by rw [Hres.out]; try rfl, H4.out.1⟩
        · have Hres : Hid (r = true) := Hrx.out (by rw [Hrb.out]; rfl)
          clear i12' i13'
          go_wp2_with fail
          go_ret
          exact ⟨by rw [Hres.out]; try rfl, H3.out.1⟩
    · obtain rfl : n = i := by omega
      have Hres : Hid (r = false) := by
        show _ = _
        have h := HK.out.1
        rw [List.take_of_length_le (by rw [← Hn.out]; exact Nat.le_refl _)] at h
        rw [Hr.out, h]
      clear hO hin
      go_wp2_with fail
      go_ret
      exact ⟨by rw [Hres.out]; try rfl, HK.out.2⟩
end Go.Proofs.Ytgcplcffejbniaa
