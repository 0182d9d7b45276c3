/- R2.Nodes: statements counted. -/
import Derived.Test.YtneibcpgengdnaaTrSts
namespace Go.Proofs.Ytneibcpgengdnaa
open Go.RowKit

theorem rzero_any (x : Ex) (v : Value) (a : Option Addr) (cap : Nat) (W : World) (hv : v = .slice a x.args.length cap) : Calls Try.prog 57 #[exVal x v] W (Gives (.bool x.zero) W) := by
  obtain ⟨k, n, s, l⟩ := x
  subst hv
  obtain ⟨m, hm⟩ : ∃ m, m = l.length := ⟨_, rfl⟩
  have hz : (Ex.mk k n s l).zero = (k == 0 && n == 0 && s.size == 0 && m == 0) := by rw [hm]; rfl
  rw [hz]
  unfold exVal Ex.kind Ex.n Ex.name Ex.args
  simp only
  rw [← hm]
  clear hz hm
  have hs0 : (s.size == 0) = decide (s.toList = []) := by
    have h1 : s.size = s.toList.length := by rw [ByteArray.toList_eq s, Array.length_toList]; rfl
    rw [h1]
    cases s.toList <;> rfl
  rw [hs0]
  clear hs0
  go_enter Try.func57, Try.ntmps57
  go_wp2_with fail
  all_goals
    (try go_ret)
    refine ⟨?_, (Below.refl _ _).alloc (Nat.le_refl _) _⟩
    apply congrArg (fun b => Ending.returned (.bool b))
    (try (have hz : ((m : Int) == 0) = (m == 0) := by rw [Bool.eq_iff_iff]; simp only [beq_iff_eq]; omega))
    simp_all
/-- r counts t parts, or is more than left. -/
def Acc (t : Nat) (left : Int) (s r : Nat) : Prop := ((t : Int) ≤ left → r = t) ∧ (left < t → left < r ∧ (r : Int) ≤ left + s)
def CutN (t : Nat) (left : Int) (r : Nat) : Prop := (left < 0 → r = 0) ∧ (0 ≤ left → Acc t left 3 r)
theorem Acc.ex {t r s : Nat} {left : Int} (h : Acc t left s r) (ta : Nat) : Acc (t + (1 + ta)) left (s + 1) (r + (1 + leftN ta (left - r - 1))) := by unfold leftN Acc at *; omega
theorem Acc.more {t r s : Nat} {left : Int} (h : Acc t left s r) {s' : Nat} (hs : s ≤ s') : Acc t left s' r := by unfold Acc at *; omega
/-- Some more parts, counted by themselves. -/
theorem Acc.sub {t r : Nat} {left : Int} (h : Acc t left 3 r) {ta ra : Nat} (ha : CutN ta (left - r) ra) : Acc (t + ta) left 3 (r + ra) := by
  unfold CutN Acc at *
  omega
theorem CutN.zero (left : Int) : CutN 0 left 0 := by unfold CutN Acc; omega
/-- How the reference counts statements. -/
def RCounts (w0 : World) (l : List St) (v : Value) : Prop := ∀ W (left : Int), Below w0.heap.size w0 W → -9 ≤ left → left ≤ 1099511627776 →
    Calls Try.prog 36 #[v, .int .i64 left] W (fun e W' => ∃ r : Nat, e = .returned (.int .i64 (r : Int)) ∧ CutN (St.totals l) left r ∧ Below W.heap.size W W')
set_option maxRecDepth 100000 in
set_option maxHeartbeats 4000000 in
theorem rstmts_any (l : List St) (v : Value) (w0 : World) (h : StsIn w0 l v) : RCounts w0 l v := by
  induction h with
  | mk l v va vb vd ve vc vk h ha hb hd he hc hk ihd ihe ihk =>
  intro W left hB hl1 hl2
  obtain ⟨a, cap, rfl, hncap, hcap⟩ := h.form
  obtain ⟨n, hn⟩ : ∃ n, n = l.length := ⟨_, rfl⟩
  have Hn := Lib.hid hn
  have Hrow : Hid (RowOf w0 (.slice a n cap) l.length 14 (fun b o i => ∀ x, l[i]? = some x → StAt w0 b o x (va i) (vb i) (vd i) (ve i) (vc i))) := by rw [hn]; exact h
  have Hih := Lib.hid (And.intro ihd (And.intro ihe ihk))
  have Hf := Lib.hid (And.intro ha (And.intro hb (And.intro hd (And.intro he (And.intro hc hk)))))
  have HB := Lib.hid hB
  rw [← hn]
  rw [← hn] at hncap
  have hn62 : n ≤ 9223372036854775807 := by have : maxLen ≤ 9223372036854775807 := by decide
                                            omega
  clear h ha hb hd he hc hk ihd ihe ihk hn hB
  go_enter Try.func36, Try.ntmps36
  go_wp2_with fail
  go_loopg [5, 6] n (fun g nv iv wx => ∃ i m : Nat, g = n - i ∧ iv = .int .i64 (i : Int) ∧ nv = .int .i64 (m : Int) ∧ i ≤ n ∧ CutN (St.totals (l.take i)) left m ∧ Below W.heap.size W wx)
  case atStart => exact ⟨0, 0, rfl, rfl, rfl, Nat.zero_le _, by simpa [St.totals] using CutN.zero left, Below.refl _ _⟩
  case round =>
    obtain ⟨i, m, hg, rfl, rfl, hi, hm, hO⟩ := hrel
    have HO := Lib.hid hO
    have hml : (m : Int) ≤ max 0 (left + 3) := by unfold CutN Acc at hm; omega
    have Hm := Lib.hid hm
    clear hm
    by_cases hin : i < n
    · by_cases hmle : (m : Int) ≤ left
      · obtain ⟨Wr, hWr⟩ : ∃ Wr : World, Wr = wr := ⟨_, rfl⟩
        subst hWr
        have hl0 : 0 ≤ left := by omega
        have Hmt : Hid (m = St.totals (l.take i)) := by
          show _ = _
          have h := Hm.out
          unfold CutN Acc at h
          omega
        obtain ⟨x, hx⟩ : ∃ x, l[i]? = some x := ⟨_, List.getElem?_eq_getElem (by rw [← Hn.out]; exact hin)⟩
        obtain ⟨b, off, rfl, hb, hP⟩ := Hrow.out.at (i := i) (by rw [← Hn.out]; exact hin)
        have hB : Below w0.heap.size w0 Wr := HB.out.trans (hO.mono HB.out.size)
        have hst := (hP x hx).later hB hb
        obtain ⟨fa, fb, fd, fe, fc, fk⟩ := Hf.out
        obtain ⟨aa, ca, hva, -⟩ := (fa i x hx).form
        obtain ⟨ab, cb, hvb, -⟩ := (fb i x hx).form
        obtain ⟨ad, cd, hvd, -⟩ := (fd i x hx).form
        obtain ⟨ae, ce, hve, -⟩ := (fe i x hx).form
        obtain ⟨ac, cc, hvc, hcc1, hcc2⟩ := (fc i x hx).form
        have fa' := fa i x hx
        have fb' := fb i x hx
        have fd' : RCounts w0 x.body (vd i) := Hih.out.1 i x hx
        have fe' : RCounts w0 x.els (ve i) := Hih.out.2.1 i x hx
        have fc' := fc i x hx
        have fk' : ∀ (j : Nat) y, x.cases[j]? = some y → StsIn w0 y.body (vk i j) ∧ RCounts w0 y.body (vk i j) := fun j y hy => ⟨fk i x j y hx hy, Hih.out.2.2 i x j y hx hy⟩
        obtain ⟨na, hna⟩ : ∃ n, n = x.a.args.length := ⟨_, rfl⟩
        obtain ⟨nb, hnb⟩ : ∃ n, n = x.b.args.length := ⟨_, rfl⟩
        obtain ⟨nd, hnd⟩ : ∃ n, n = x.body.length := ⟨_, rfl⟩
        obtain ⟨ne, hne⟩ : ∃ n, n = x.els.length := ⟨_, rfl⟩
        obtain ⟨nc, hnc⟩ : ∃ n, n = x.cases.length := ⟨_, rfl⟩
        rw [hva, hvb, hvd, hve, hvc, ← hna, ← hnb, ← hnd, ← hne, ← hnc] at hst
        rw [hva, ← hna] at fa'
        rw [hvb, ← hnb] at fb'
        rw [hvd, ← hnd] at fd'
        rw [hve, ← hne] at fe'
        rw [hvc, ← hnc] at fc'
        rw [← hnc] at hcc1
        have hnc62 : nc ≤ 9223372036854775807 := by have : maxLen ≤ 9223372036854775807 := by decide
                                                    omega
        have Hy := Lib.hid (And.intro fa' (And.intro fb' (And.intro fd' (And.intro fe' (And.intro fc' fk')))))
        have Hna := Lib.hid (And.intro hna (And.intro hnb hnc))
        have Hx := Lib.hid hx
        have Hg := Lib.hid hg
        have HB2 := Lib.hid hB
        obtain ⟨i0, i1, i2, i3, i4, i5, i6, i7, i8, i9, i10, i11, i12, i13⟩ := hst
        have q0 := block_lt_of_cell i0
        obtain ⟨W1, hW1⟩ : ∃ W1, W1 = Wr.alloc (.cells #[.int .i64 x.kind, .string x.name, .int .i64 x.n, .int .i64 x.a.kind, .int .i64 x.a.n, .string x.a.name, .slice aa na ca, .int .i64 x.b.kind, .int .i64 x.b.n, .string x.b.name, .slice ab nb cb, .slice ad nd cd, .slice ae ne ce, .slice ac nc cc] 47) := ⟨_, rfl⟩
        have hO1 : Below Wr.heap.size Wr W1 := by rw [hW1]; exact (Below.refl _ _).alloc (Nat.le_refl _) _
        have hs1 : W1.heap.size = Wr.heap.size + 1 := by rw [hW1]; simp
        have hv1 : StAt W1 Wr.heap.size 0 x (.slice aa na ca) (.slice ab nb cb) (.slice ad nd cd) (.slice ae ne ce) (.slice ac nc cc) := by rw [hW1]; exact StAt.box _ _ _ _ _ _ _ _
        have H1 := Lib.hid (And.intro hs1 (And.intro hO1 hv1))
        have HW1 := Lib.hid hW1
        have q1 : Wr.heap.size < W1.heap.size := by omega
        clear hB hO hP hx hg hO1 hs1 hW1 fa fb fd fe fc fk fa' fb' fd' fe' fc' fk' hna hnb hnd hne hnc hva hvb hvd hve hvc hcc1 hv1
        go_upto_region 6 with (fail)
        rw [← HW1.out]
        clear i0 i1 i2 i3 i4 i5 i6 i7 i8 i9 i10 i11 i12 i13 HW1
        obtain ⟨i0, i1, i2, i3, i4, i5, i6, i7, i8, i9, i10, i11, i12, i13⟩ := H1.out.2.2
        simp only [Nat.zero_add] at i0 i1 i2 i3 i4 i5 i6 i7 i8 i9 i10 i11 i12 i13
        go_wp2_with fail
        refine (rzero_any x.a (.slice aa na ca) aa ca _ (by rw [Hna.out.1])).mono ?_
        rintro e w2 ⟨rfl, hb2⟩
        have hst2 := H1.out.2.2.later hb2 q1
        have hO2 : Below Wr.heap.size Wr w2 := H1.out.2.1.trans (hb2.mono (by omega))
        have q2 : Wr.heap.size < w2.heap.size := by have := hb2.size; omega
        have H2 := Lib.hid (And.intro hst2 (And.intro hO2 (HB2.out.trans (hO2.mono HB2.out.size))))
        have e1 : Hid ((m : Int) + 1 = ((m + 1 : Nat) : Int)) := by show _ = _; omega
        clear i0 i1 i2 i3 i4 i5 i6 i7 i8 i9 i10 i11 i12 i13 hst2 hO2 hb2 q1 H1
        obtain ⟨i0, i1, i2, i3, i4, i5, i6, i7, i8, i9, i10, i11, i12, i13⟩ := H2.out.1
        simp only [Nat.zero_add] at i0 i1 i2 i3 i4 i5 i6 i7 i8 i9 i10 i11 i12 i13
        clear i0 i1 i2 i3 i4 i5 i7 i8 i9 i10 i11 i12 i13
        go_upto_if 29 with (fail)
        rw [e1.out]
        go_cut [5] (fun v wc => ∃ m2 : Nat, v = .int .i64 (m2 : Int) ∧ Acc (St.totals (l.take i) + 1 + x.a.part) left 2 m2 ∧ wc = w2)
        case first =>
          obtain ⟨z, hz⟩ : ∃ z, z = x.a.zero := ⟨_, rfl⟩
          have Hz := Lib.hid hz
          rw [← hz]
          clear hz
          cases z
          · go_wp2_with fail
            refine (rexprs_any _ _ w0 Hy.out.1 w2 (left - (m + 1) - 1) H2.out.2.2 (by omega) (by omega)).mono ?_
            rintro e w3 ⟨rfl, hw3⟩
            rw [← hw3]
            clear hw3
            obtain ⟨r, hr⟩ : ∃ r : Nat, r = leftN (Ex.totals x.a.args) (left - (m + 1) - 1) := ⟨_, rfl⟩
            have hrl : (r : Int) ≤ left + 1 := by rw [hr]; unfold leftN; omega
            rw [← hr]
            have Hr := Lib.hid hr
            clear hr
            go_wp2_with fail
            go_meet
            case rel => exact ⟨m + 1 + (1 + r), by go_num, by
              have h1 : x.a.part = 1 + Ex.totals x.a.args := by
                have := Ex.total_eq x.a
                simp only [Ex.part, ← Hz.out]; simp [this]
              have h2 : Acc (St.totals (l.take i) + 1) left 1 (m + 1) := by have := Hmt.out; unfold Acc; omega
              have h3 := h2.ex (Ex.totals x.a.args)
              rw [h1, Hr.out]
              exact h3, rfl⟩
          · go_wp2_with fail
            go_meet
            case rel => exact ⟨m + 1, rfl, by
              have h1 : x.a.part = 0 := by simp only [Ex.part, ← Hz.out]; simp
              rw [h1]
              have := Hmt.out
              unfold Acc
              omega, rfl⟩
        case rest =>
          obtain ⟨m2, rfl, hm2, rfl⟩ := hcut
          have hm2l : (m2 : Int) ≤ left + 2 := by unfold Acc at hm2; omega
          have Hm2 := Lib.hid hm2
          clear hm2 i6 Hmt e1
          obtain ⟨i0, i1, i2, i3, i4, i5, i6, i7, i8, i9, i10, i11, i12, i13⟩ := H2.out.1
          simp only [Nat.zero_add] at i0 i1 i2 i3 i4 i5 i6 i7 i8 i9 i10 i11 i12 i13
          clear i0 i1 i2 i3 i4 i5 i6 i11 i12 i13
          go_wp2_with fail
          refine (rzero_any x.b (.slice ab nb cb) ab cb _ (by rw [Hna.out.2.1])).mono ?_
          rintro e w3 ⟨rfl, hb3⟩
          have hst3 := H2.out.1.later hb3 q2
          have hO3 : Below Wr.heap.size Wr w3 := H2.out.2.1.trans (hb3.mono (by omega))
          have q3 : Wr.heap.size < w3.heap.size := by have := hb3.size; omega
          have H3 := Lib.hid (And.intro hst3 (And.intro hO3 (HB2.out.trans (hO3.mono HB2.out.size))))
          clear i7 i8 i9 i10 hst3 hO3 hb3 q2 H2
          obtain ⟨i0, i1, i2, i3, i4, i5, i6, i7, i8, i9, i10, i11, i12, i13⟩ := H3.out.1
          simp only [Nat.zero_add] at i0 i1 i2 i3 i4 i5 i6 i7 i8 i9 i10 i11 i12 i13
          clear i0 i1 i2 i3 i4 i5 i6 i7 i8 i9 i11 i12 i13
          go_upto_if 44 with (fail)
          go_cut [5] (fun v wc => ∃ m3 : Nat, v = .int .i64 (m3 : Int) ∧ Acc (St.totals (l.take i) + 1 + x.a.part + x.b.part) left 3 m3 ∧ wc = w3)
          case first =>
            obtain ⟨z, hz⟩ : ∃ z, z = x.b.zero := ⟨_, rfl⟩
            have Hz := Lib.hid hz
            rw [← hz]
            clear hz
            cases z
            · go_wp2_with fail
              refine (rexprs_any _ _ w0 Hy.out.2.1 w3 (left - m2 - 1) H3.out.2.2 (by omega) (by omega)).mono ?_
              rintro e w4 ⟨rfl, hw4⟩
              rw [← hw4]
              clear hw4
              obtain ⟨r, hr⟩ : ∃ r : Nat, r = leftN (Ex.totals x.b.args) (left - m2 - 1) := ⟨_, rfl⟩
              have hrl : (r : Int) ≤ left + 1 := by rw [hr]; unfold leftN; omega
              rw [← hr]
              have Hr := Lib.hid hr
              clear hr
              go_wp2_with fail
              go_meet
              case rel => exact ⟨m2 + (1 + r), by go_num, by
                have h1 : x.b.part = 1 + Ex.totals x.b.args := by
                  have := Ex.total_eq x.b
                  simp only [Ex.part, ← Hz.out]; simp [this]
                have h3 := Hm2.out.ex (Ex.totals x.b.args)
                rw [h1, Hr.out]
                exact h3, rfl⟩
            · go_wp2_with fail
              go_meet
              case rel => exact ⟨m2, rfl, by
                have h1 : x.b.part = 0 := by simp only [Ex.part, ← Hz.out]; simp
                rw [h1]
                exact Hm2.out.more (by omega), rfl⟩
          case rest =>
            obtain ⟨m3, rfl, hm3, rfl⟩ := hcut
            have hm3l : (m3 : Int) ≤ left + 3 := by unfold Acc at hm3; omega
            have Hm3 := Lib.hid hm3
            clear hm3 i10 Hm2 hm2l
            obtain ⟨i0, i1, i2, i3, i4, i5, i6, i7, i8, i9, i10, i11, i12, i13⟩ := H3.out.1
            simp only [Nat.zero_add] at i0 i1 i2 i3 i4 i5 i6 i7 i8 i9 i10 i11 i12 i13
            clear i0 i1 i2 i3 i4 i5 i6 i7 i8 i9 i10 i12 i13
            go_wp2_with fail
            refine (Hy.out.2.2.1 _ (left - m3) H3.out.2.2 (by omega) (by omega)).mono ?_
            rintro e w4 ⟨r, rfl, hr, hb4⟩
            have hrl : (r : Int) ≤ max 0 (left - m3 + 3) := by unfold CutN Acc at hr; omega
            have hr2 : Acc (St.totals (l.take i) + 1 + x.a.part + x.b.part + St.totals x.body) left 3 (m3 + r) := Hm3.out.sub hr
            have hst4 := H3.out.1.later hb4 q3
            have hO4 : Below Wr.heap.size Wr w4 := H3.out.2.1.trans (hb4.mono (by omega))
            have q4 : Wr.heap.size < w4.heap.size := by have := hb4.size; omega
            have H4 := Lib.hid (And.intro hst4 (And.intro hO4 (And.intro (HB2.out.trans (hO4.mono HB2.out.size)) hr2)))
            obtain ⟨m4, hm4⟩ : ∃ m4, m4 = m3 + r := ⟨_, rfl⟩
            have e4 : Hid ((m3 : Int) + r = (m4 : Int)) := by show _ = _; omega
            have hm4l : (m4 : Int) ≤ left + 3 := by omega
            have Hm4 := Lib.hid hm4
            clear i11 hst4 hO4 hb4 q3 H3 hr hr2 hm4 Hm3
            go_upto_region 12 with (fail)
            rw [e4.out]
            clear hrl e4 hm3l
            go_wp2_with fail
            go_loopg [5, 8] nc (fun g mv jv wx => ∃ j m : Nat, g = nc - j ∧ jv = .int .i64 (j : Int) ∧ mv = .int .i64 (m : Int) ∧ j ≤ nc ∧ Acc (St.totals (l.take i) + 1 + x.a.part + x.b.part + St.totals x.body + Cs.totals (x.cases.take j)) left 3 m ∧ Below w4.heap.size w4 wx)
            case atStart => exact ⟨0, m4, rfl, rfl, rfl, by omega, by simpa [Cs.totals, Hm4.out] using H4.out.2.2.2, Below.refl _ _⟩
            case round =>
              obtain ⟨j, m, hg2, rfl, rfl, hj, hm, hO⟩ := hrel
              have hml : (m : Int) ≤ left + 3 := by unfold Acc at hm; omega
              have HG2 := Lib.hid hg2
              have HOj := Lib.hid hO
              have Hm := Lib.hid hm
              have hst := H4.out.1.later hO q4
              have hbw : Below w0.heap.size w0 wr := H4.out.2.2.1.trans (hO.mono H4.out.2.2.1.size)
              have HBw := Lib.hid hbw
              have q5 : Wr.heap.size < wr.heap.size := by have := hO.size; omega
              have Hst := Lib.hid hst
              obtain ⟨i0, i1, i2, i3, i4, i5, i6, i7, i8, i9, i10, i11, i12, i13⟩ := hst
              simp only [Nat.zero_add] at i0 i1 i2 i3 i4 i5 i6 i7 i8 i9 i10 i11 i12 i13
              clear i0 i1 i2 i3 i4 i5 i6 i7 i8 i9 i10 i11 hg2 hm hO
              by_cases hgo : j < nc ∧ (m : Int) ≤ left
              · obtain ⟨hj2, hmle⟩ := hgo
                obtain ⟨y, hy⟩ : ∃ y, x.cases[j]? = some y := ⟨_, List.getElem?_eq_getElem (by rw [← Hna.out.2.2]; exact hj2)⟩
                obtain ⟨bc, oc, rfl, hbc, hPc⟩ := Hy.out.2.2.2.2.1.at (i := j) hj2
                have hcs := (hPc y hy).later hbw hbc
                obtain ⟨hsb, hib⟩ := Hy.out.2.2.2.2.2 j y hy
                obtain ⟨ay, cy, hvy, -⟩ := hsb.form
                obtain ⟨ny, hny⟩ : ∃ n, n = y.body.length := ⟨_, rfl⟩
                rw [hvy, ← hny] at hcs hib
                obtain ⟨k0, k1⟩ := hcs
                have HD := Lib.hid (And.intro hib hy)
                clear hbw hPc hy hib hsb hvy hny i12
                go_wp2_with fail
                refine (HD.out.1 wr (left - m - 1) HBw.out (by omega) (by omega)).mono ?_
                rintro e w5 ⟨r, rfl, hr, hb5⟩
                have hrl : (r : Int) ≤ max 0 (left - m - 1 + 3) := by unfold CutN Acc at hr; omega
                have hr2 : Acc (St.totals (l.take i) + 1 + x.a.part + x.b.part + St.totals x.body + Cs.totals (x.cases.take (j + 1))) left 3 (m + (1 + r)) := by
                  have h1 := Hm.out
                  rw [Cs.totals_take HD.out.2, Cs.total_eq]
                  unfold CutN Acc at *
                  omega
                have H5 := Lib.hid (And.intro hr2 (HOj.out.trans (hb5.mono HOj.out.size)))
                clear hr hr2 hb5 k0 k1 i13
                go_wp2_with fail
                go_roundg (nc - (j + 1))
                case measure => have := HG2.out; omega
                case rel => exact ⟨j + 1, m + (1 + r), rfl, by go_num, by go_num, hj2, H5.out.1, H5.out.2⟩
              · have hfin : Acc (St.totals (l.take i) + 1 + x.a.part + x.b.part + St.totals x.body + Cs.totals x.cases) left 3 m := by
                  have h1 := Hm.out
                  by_cases hjn : j < nc
                  · have h2 := Cs.totals_le (l := x.cases) j
                    unfold Acc at *
                    omega
                  · rw [List.take_of_length_le (l := x.cases) (by rw [← Hna.out.2.2]; omega)] at h1
                    exact h1
                have Hfin := Lib.hid hfin
                clear hfin hbw
                rcases (by omega : (j < nc ∧ ¬ (m : Int) ≤ left) ∨ ¬ j < nc) with ⟨hj2, hml2⟩ | hj2
                all_goals
                  clear hgo
                  go_wp2_with fail
                  refine (Hy.out.2.2.2.1 wr (left - m) HBw.out (by omega) (by omega)).mono ?_
                  rintro e w5 ⟨r, rfl, hr, hb5⟩
                  have hrl : (r : Int) ≤ max 0 (left - m + 3) := by unfold CutN Acc at hr; omega
                  have hr2 := Hfin.out.sub hr
                  have hO5 : Below Wr.heap.size Wr w5 := H4.out.2.1.trans ((HOj.out.trans (hb5.mono HOj.out.size)).mono H4.out.2.1.size)
                  have H5 := Lib.hid (And.intro hr2 hO5)
                  clear hr hr2 hb5 hO5 i12 i13
                  go_wp2_with fail
                  go_roundg (n - (i + 1))
                  case measure => have := Hg.out; omega
                  case rel => exact ⟨i + 1, m + r, rfl, by go_num, by go_num, hin, by
                      have h := H5.out.1
                      have e : St.totals (l.take (i + 1)) = St.totals (l.take i) + 1 + x.a.part + x.b.part + St.totals x.body + Cs.totals x.cases + St.totals x.els := by
                        rw [St.totals_take Hx.out, St.total_eq]
                        omega
                      rw [e]
                      unfold CutN
                      exact ⟨fun h => by omega, fun _ => h⟩, HO.out.trans (H5.out.2.mono HO.out.size)⟩
      · have Hres : Hid (CutN (St.totals l) left m) := by
          show CutN _ _ _
          have h := St.totals_le (l := l) i
          have h3 := Hm.out
          unfold CutN Acc at *
          omega
        have HO2 := Lib.hid hO
        clear hO
        go_wp2_with fail
        go_ret
        exact ⟨m, rfl, Hres.out, HO2.out⟩
    · obtain rfl : n = i := by omega
      have Hres : Hid (CutN (St.totals l) left m) := by
        show CutN _ _ _
        have h3 := Hm.out
        rw [List.take_of_length_le (by rw [← Hn.out]; exact Nat.le_refl _)] at h3
        exact h3
      have HO2 := Lib.hid hO
      clear hO
      go_wp2_with fail
      go_ret
      exact ⟨m, rfl, Hres.out, HO2.out⟩
end Go.Proofs.Ytneibcpgengdnaa
