/- What is wrong with an expression, and the tables of kinds. -/
import Derived.Test.YtgcplcffejbniaaTrSts
import Derived.OwnWalk
/- R2.Nodes: statements counted. -/
namespace Go.Proofs.Ytgcplcffejbniaa
open Go.RowKit

theorem rzero_any (x : Ex) (v : Value) (a : Option Addr) (cap : Nat) (W : World) (hv : v = .slice a x.args.length cap) : Calls Try.prog 68 #[exVal x v] W (Gives (.bool x.zero) W) := by
  obtain ⟨k, n, s, l⟩ := x
  subst hv
  obtain ⟨m, hm⟩ : ∃ m, m = l.length := ⟨_, rfl⟩
  have hz : (Ex.mk k n s l).zero = (k == 0 && n == 0 && s.size == 0 && m == 0) := by rw [hm]; rfl
  rw [hz]
  unfold exVal Ex.kind Ex.n Ex.name Ex.args
  simp only
  rw [← hm]
  clear hz hm
  have hs0 : (s.size == 0) = decide (s.toList = []) := by
    have h1 : s.size = s.toList.length := by rw [ByteArray.toList_eq s, Array.length_toList]; rfl
    rw [h1]
    cases s.toList <;> rfl
  rw [hs0]
  clear hs0
  go_enter Try.func68, Try.ntmps68
  go_wp2_with fail
  all_goals
    (try go_ret)
    refine ⟨?_, (Below.refl _ _).alloc (Nat.le_refl _) _⟩
    apply congrArg (fun b => Ending.returned (.bool b))
    (try (have hz : ((m : Int) == 0) = (m == 0) := by rw [Bool.eq_iff_iff]; simp only [beq_iff_eq]; omega))
    simp_all
/-- r counts t parts, or is more than left. -/
def Acc (t : Nat) (left : Int) (s r : Nat) : Prop := ((t : Int) ≤ left → r = t) ∧ (left < t → left < r ∧ (r : Int) ≤ left + s)
def CutN (t : Nat) (left : Int) (r : Nat) : Prop := (left < 0 → r = 0) ∧ (0 ≤ left → Acc t left 3 r)
theorem Acc.ex {t r s : Nat} {left : Int} (h : Acc t left s r) (ta : Nat) : Acc (t + (1 + ta)) left (s + 1) (r + (1 + leftN ta (left - r - 1))) := by unfold leftN Acc at *; omega
theorem Acc.more {t r s : Nat} {left : Int} (h : Acc t left s r) {s' : Nat} (hs : s ≤ s') : Acc t left s' r := by unfold Acc at *; omega
/-- Some more parts, counted by themselves. -/
theorem Acc.sub {t r : Nat} {left : Int} (h : Acc t left 3 r) {ta ra : Nat} (ha : CutN ta (left - r) ra) : Acc (t + ta) left 3 (r + ra) := by
  unfold CutN Acc at *
  omega
theorem CutN.zero (left : Int) : CutN 0 left 0 := by unfold CutN Acc; omega
/-- How the reference counts statements. -/
def RCounts (w0 : World) (l : List St) (v : Value) : Prop := ∀ W (left : Int), Below w0.heap.size w0 W → -9 ≤ left → left ≤ 1099511627776 →
    Calls Try.prog 42 #[v, .int .i64 left] W (fun e W' => ∃ r : Nat, e = .returned (.int .i64 (r : Int)) ∧ CutN (St.totals l) left r ∧ Below W.heap.size W W')
set_option maxRecDepth 100000 in
set_option maxHeartbeats 4000000 in
theorem rstmts_any (l : List St) (v : Value) (w0 : World) (h : StsIn w0 l v) : RCounts w0 l v := by
  induction h with
  | mk l v va vb vd ve vc vk h ha hb hd he hc hk ihd ihe ihk =>
  intro W left hB hl1 hl2
  obtain ⟨a, cap, rfl, hncap, hcap⟩ := h.form
  obtain ⟨n, hn⟩ : ∃ n, n = l.length := ⟨_, rfl⟩
  have Hn := Lib.hid hn
  have Hrow : Hid (RowOf w0 (.slice a n cap) l.length 14 (fun b o i => ∀ x, l[i]? = some x → StAt w0 b o x (va i) (vb i) (vd i) (ve i) (vc i))) := by rw [hn]; exact h
  have Hih := Lib.hid (And.intro ihd (And.intro ihe ihk))
  have Hf := Lib.hid (And.intro ha (And.intro hb (And.intro hd (And.intro he (And.intro hc hk)))))
  have HB := Lib.hid hB
  rw [← hn]
  rw [← hn] at hncap
  have hn62 : n ≤ 9223372036854775807 := by have : maxLen ≤ 9223372036854775807 := by decide
                                            omega
  clear h ha hb hd he hc hk ihd ihe ihk hn hB
  go_enter Try.func42, Try.ntmps42
  go_wp2_with fail
  go_loopg [5, 6] n (fun g nv iv wx => ∃ i m : Nat, g = n - i ∧ iv = .int .i64 (i : Int) ∧ nv = .int .i64 (m : Int) ∧ i ≤ n ∧ CutN (St.totals (l.take i)) left m ∧ Below W.heap.size W wx)
  case atStart => exact ⟨0, 0, rfl, rfl, rfl, Nat.zero_le _, by simpa [St.totals] using CutN.zero left, Below.refl _ _⟩
  case round =>
    obtain ⟨i, m, hg, rfl, rfl, hi, hm, hO⟩ := hrel
    have HO := Lib.hid hO
    have hml : (m : Int) ≤ max 0 (left + 3) := by unfold CutN Acc at hm; omega
    have Hm := Lib.hid hm
    clear hm
    by_cases hin : i < n
    · by_cases hmle : (m : Int) ≤ left
      · obtain ⟨Wr, hWr⟩ : ∃ Wr : World, Wr = wr := ⟨_, rfl⟩
        subst hWr
        have hl0 : 0 ≤ left := by omega
        have Hmt : Hid (m = St.totals (l.take i)) := by
          show _ = _
          have h := Hm.out
          unfold CutN Acc at h
          omega
        obtain ⟨x, hx⟩ : ∃ x, l[i]? = some x := ⟨_, List.getElem?_eq_getElem (by rw [← Hn.out]; exact hin)⟩
        obtain ⟨b, off, rfl, hb, hP⟩ := Hrow.out.at (i := i) (by rw [← Hn.out]; exact hin)
        have hB : Below w0.heap.size w0 Wr := HB.out.trans (hO.mono HB.out.size)
        have hst := (hP x hx).later hB hb
        obtain ⟨fa, fb, fd, fe, fc, fk⟩ := Hf.out
        obtain ⟨aa, ca, hva, -⟩ := (fa i x hx).form
        obtain ⟨ab, cb, hvb, -⟩ := (fb i x hx).form
        obtain ⟨ad, cd, hvd, -⟩ := (fd i x hx).form
        obtain ⟨ae, ce, hve, -⟩ := (fe i x hx).form
        obtain ⟨ac, cc, hvc, hcc1, hcc2⟩ := (fc i x hx).form
        have fa' := fa i x hx
        have fb' := fb i x hx
        have fd' : RCounts w0 x.body (vd i) := Hih.out.1 i x hx
        have fe' : RCounts w0 x.els (ve i) := Hih.out.2.1 i x hx
        have fc' := fc i x hx
        have fk' : ∀ (j : Nat) y, x.cases[j]? = some y → StsIn w0 y.body (vk i j) ∧ RCounts w0 y.body (vk i j) := fun j y hy => ⟨fk i x j y hx hy, Hih.out.2.2 i x j y hx hy⟩
        obtain ⟨na, hna⟩ : ∃ n, n = x.a.args.length := ⟨_, rfl⟩
        obtain ⟨nb, hnb⟩ : ∃ n, n = x.b.args.length := ⟨_, rfl⟩
        obtain ⟨nd, hnd⟩ : ∃ n, n = x.body.length := ⟨_, rfl⟩
        obtain ⟨ne, hne⟩ : ∃ n, n = x.els.length := ⟨_, rfl⟩
        obtain ⟨nc, hnc⟩ : ∃ n, n = x.cases.length := ⟨_, rfl⟩
        rw [hva, hvb, hvd, hve, hvc, ← hna, ← hnb, ← hnd, ← hne, ← hnc] at hst
        rw [hva, ← hna] at fa'
        rw [hvb, ← hnb] at fb'
        rw [hvd, ← hnd] at fd'
        rw [hve, ← hne] at fe'
        rw [hvc, ← hnc] at fc'
        rw [← hnc] at hcc1
        have hnc62 : nc ≤ 9223372036854775807 := by have : maxLen ≤ 9223372036854775807 := by decide
                                                    omega
        have Hy := Lib.hid (And.intro fa' (And.intro fb' (And.intro fd' (And.intro fe' (And.intro fc' fk')))))
        have Hna := Lib.hid (And.intro hna (And.intro hnb hnc))
        have Hx := Lib.hid hx
        have Hg := Lib.hid hg
        have HB2 := Lib.hid hB
        obtain ⟨i0, i1, i2, i3, i4, i5, i6, i7, i8, i9, i10, i11, i12, i13⟩ := hst
        have q0 := block_lt_of_cell i0
        obtain ⟨W1, hW1⟩ : ∃ W1, W1 = Wr.alloc (.cells #[.int .i64 x.kind, .string x.name, .int .i64 x.n, .int .i64 x.a.kind, .int .i64 x.a.n, .string x.a.name, .slice aa na ca, .int .i64 x.b.kind, .int .i64 x.b.n, .string x.b.name, .slice ab nb cb, .slice ad nd cd, .slice ae ne ce, .slice ac nc cc] 48) := ⟨_, rfl⟩
        have hO1 : Below Wr.heap.size Wr W1 := by rw [hW1]; exact (Below.refl _ _).alloc (Nat.le_refl _) _
        have hs1 : W1.heap.size = Wr.heap.size + 1 := by rw [hW1]; simp
        have hv1 : StAt W1 Wr.heap.size 0 x (.slice aa na ca) (.slice ab nb cb) (.slice ad nd cd) (.slice ae ne ce) (.slice ac nc cc) := by rw [hW1]; exact StAt.box _ _ _ _ _ _ _ _
        have H1 := Lib.hid (And.intro hs1 (And.intro hO1 hv1))
        have HW1 := Lib.hid hW1
        have q1 : Wr.heap.size < W1.heap.size := by omega
        clear hB hO hP hx hg hO1 hs1 hW1 fa fb fd fe fc fk fa' fb' fd' fe' fc' fk' hna hnb hnd hne hnc hva hvb hvd hve hvc hcc1 hv1
        go_upto_region 6 with (fail)
        rw [← HW1.out]
        clear i0 i1 i2 i3 i4 i5 i6 i7 i8 i9 i10 i11 i12 i13 HW1
        obtain ⟨i0, i1, i2, i3, i4, i5, i6, i7, i8, i9, i10, i11, i12, i13⟩ := H1.out.2.2
        simp only [Nat.zero_add] at i0 i1 i2 i3 i4 i5 i6 i7 i8 i9 i10 i11 i12 i13
        go_wp2_with fail
        refine (rzero_any x.a (.slice aa na ca) aa ca _ (by rw [Hna.out.1])).mono ?_
        rintro e w2 ⟨rfl, hb2⟩
        have hst2 := H1.out.2.2.later hb2 q1
        have hO2 : Below Wr.heap.size Wr w2 := H1.out.2.1.trans (hb2.mono (by omega))
        have q2 : Wr.heap.size < w2.heap.size := by have := hb2.size; omega
        have H2 := Lib.hid (And.intro hst2 (And.intro hO2 (HB2.out.trans (hO2.mono HB2.out.size))))
        have e1 : Hid ((m : Int) + 1 = ((m + 1 : Nat) : Int)) := by show _ = _; omega
        clear i0 i1 i2 i3 i4 i5 i6 i7 i8 i9 i10 i11 i12 i13 hst2 hO2 hb2 q1 H1
        obtain ⟨i0, i1, i2, i3, i4, i5, i6, i7, i8, i9, i10, i11, i12, i13⟩ := H2.out.1
        simp only [Nat.zero_add] at i0 i1 i2 i3 i4 i5 i6 i7 i8 i9 i10 i11 i12 i13
        clear i0 i1 i2 i3 i4 i5 i7 i8 i9 i10 i11 i12 i13
        go_upto_if 29 with (fail)
        rw [e1.out]
        go_cut [5] (fun v wc => ∃ m2 : Nat, v = .int .i64 (m2 : Int) ∧ Acc (St.totals (l.take i) + 1 + x.a.part) left 2 m2 ∧ wc = w2)
        case first =>
          obtain ⟨z, hz⟩ : ∃ z, z = x.a.zero := ⟨_, rfl⟩
          have Hz := Lib.hid hz
          rw [← hz]
          clear hz
          cases z
          · go_wp2_with fail
            refine (rexprs_any _ _ w0 Hy.out.1 w2 (left - (m + 1) - 1) H2.out.2.2 (by omega) (by omega)).mono ?_
            rintro e w3 ⟨rfl, hw3⟩
            rw [← hw3]
            clear hw3
            obtain ⟨r, hr⟩ : ∃ r : Nat, r = leftN (Ex.totals x.a.args) (left - (m + 1) - 1) := ⟨_, rfl⟩
            have hrl : (r : Int) ≤ left + 1 := by rw [hr]; unfold leftN; omega
            rw [← hr]
            have Hr := Lib.hid hr
            clear hr
            go_wp2_with fail
            go_meet
            case rel => exact ⟨m + 1 + (1 + r), by go_num, by
              have h1 : x.a.part = 1 + Ex.totals x.a.args := by
                have := Ex.total_eq x.a
                simp only [Ex.part, ← Hz.out]; simp [this]
              have h2 : Acc (St.totals (l.take i) + 1) left 1 (m + 1) := by have := Hmt.out; unfold Acc; omega
              have h3 := h2.ex (Ex.totals x.a.args)
              rw [h1, Hr.out]
              exact h3, rfl⟩
          · go_wp2_with fail
            go_meet
            case rel => exact ⟨m + 1, rfl, by
              have h1 : x.a.part = 0 := by simp only [Ex.part, ← Hz.out]; simp
              rw [h1]
              have := Hmt.out
              unfold Acc
              omega, rfl⟩
        case rest =>
          obtain ⟨m2, rfl, hm2, rfl⟩ := hcut
          have hm2l : (m2 : Int) ≤ left + 2 := by unfold Acc at hm2; omega
          have Hm2 := Lib.hid hm2
          clear hm2 i6 Hmt e1
          obtain ⟨i0, i1, i2, i3, i4, i5, i6, i7, i8, i9, i10, i11, i12, i13⟩ := H2.out.1
          simp only [Nat.zero_add] at i0 i1 i2 i3 i4 i5 i6 i7 i8 i9 i10 i11 i12 i13
          clear i0 i1 i2 i3 i4 i5 i6 i11 i12 i13
          go_wp2_with fail
          refine (rzero_any x.b (.slice ab nb cb) ab cb _ (by rw [Hna.out.2.1])).mono ?_
          rintro e w3 ⟨rfl, hb3⟩
          have hst3 := H2.out.1.later hb3 q2
          have hO3 : Below Wr.heap.size Wr w3 := H2.out.2.1.trans (hb3.mono (by omega))
          have q3 : Wr.heap.size < w3.heap.size := by have := hb3.size; omega
          have H3 := Lib.hid (And.intro hst3 (And.intro hO3 (HB2.out.trans (hO3.mono HB2.out.size))))
          clear i7 i8 i9 i10 hst3 hO3 hb3 q2 H2
          obtain ⟨i0, i1, i2, i3, i4, i5, i6, i7, i8, i9, i10, i11, i12, i13⟩ := H3.out.1
          simp only [Nat.zero_add] at i0 i1 i2 i3 i4 i5 i6 i7 i8 i9 i10 i11 i12 i13
          clear i0 i1 i2 i3 i4 i5 i6 i7 i8 i9 i11 i12 i13
          go_upto_if 44 with (fail)
          go_cut [5] (fun v wc => ∃ m3 : Nat, v = .int .i64 (m3 : Int) ∧ Acc (St.totals (l.take i) + 1 + x.a.part + x.b.part) left 3 m3 ∧ wc = w3)
          case first =>
            obtain ⟨z, hz⟩ : ∃ z, z = x.b.zero := ⟨_, rfl⟩
            have Hz := Lib.hid hz
            rw [← hz]
            clear hz
            cases z
            · go_wp2_with fail
              refine (rexprs_any _ _ w0 Hy.out.2.1 w3 (left - m2 - 1) H3.out.2.2 (by omega) (by omega)).mono ?_
              rintro e w4 ⟨rfl, hw4⟩
              rw [← hw4]
              clear hw4
              obtain ⟨r, hr⟩ : ∃ r : Nat, r = leftN (Ex.totals x.b.args) (left - m2 - 1) := ⟨_, rfl⟩
              have hrl : (r : Int) ≤ left + 1 := by rw [hr]; unfold leftN; omega
              rw [← hr]
              have Hr := Lib.hid hr
              clear hr
              go_wp2_with fail
              go_meet
              case rel => exact ⟨m2 + (1 + r), by go_num, by
                have h1 : x.b.part = 1 + Ex.totals x.b.args := by
                  have := Ex.total_eq x.b
                  simp only [Ex.part, ← Hz.out]; simp [this]
                have h3 := Hm2.out.ex (Ex.totals x.b.args)
                rw [h1, Hr.out]
                exact h3, rfl⟩
            · go_wp2_with fail
              go_meet
              case rel => exact ⟨m2, rfl, by
                have h1 : x.b.part = 0 := by simp only [Ex.part, ← Hz.out]; simp
                rw [h1]
                exact Hm2.out.more (by omega), rfl⟩
          case rest =>
            obtain ⟨m3, rfl, hm3, rfl⟩ := hcut
            have hm3l : (m3 : Int) ≤ left + 3 := by unfold Acc at hm3; omega
            have Hm3 := Lib.hid hm3
            clear hm3 i10 Hm2 hm2l
            obtain ⟨i0, i1, i2, i3, i4, i5, i6, i7, i8, i9, i10, i11, i12, i13⟩ := H3.out.1
            simp only [Nat.zero_add] at i0 i1 i2 i3 i4 i5 i6 i7 i8 i9 i10 i11 i12 i13
            clear i0 i1 i2 i3 i4 i5 i6 i7 i8 i9 i10 i12 i13
            go_wp2_with fail
            refine (Hy.out.2.2.1 _ (left - m3) H3.out.2.2 (by omega) (by omega)).mono ?_
            rintro e w4 ⟨r, rfl, hr, hb4⟩
            have hrl : (r : Int) ≤ max 0 (left - m3 + 3) := by unfold CutN Acc at hr; omega
            have hr2 : Acc (St.totals (l.take i) + 1 + x.a.part + x.b.part + St.totals x.body) left 3 (m3 + r) := Hm3.out.sub hr
            have hst4 := H3.out.1.later hb4 q3
            have hO4 : Below Wr.heap.size Wr w4 := H3.out.2.1.trans (hb4.mono (by omega))
            have q4 : Wr.heap.size < w4.heap.size := by have := hb4.size; omega
            have H4 := Lib.hid (And.intro hst4 (And.intro hO4 (And.intro (HB2.out.trans (hO4.mono HB2.out.size)) hr2)))
            obtain ⟨m4, hm4⟩ : ∃ m4, m4 = m3 + r := ⟨_, rfl⟩
            have e4 : Hid ((m3 : Int) + r = (m4 : Int)) := by show _ = _; omega
            have hm4l : (m4 : Int) ≤ left + 3 := by omega
            have Hm4 := Lib.hid hm4
            clear i11 hst4 hO4 hb4 q3 H3 hr hr2 hm4 Hm3
            go_upto_region 12 with (fail)
            rw [e4.out]
            clear hrl e4 hm3l
            go_wp2_with fail
            go_loopg [5, 8] nc (fun g mv jv wx => ∃ j m : Nat, g = nc - j ∧ jv = .int .i64 (j : Int) ∧ mv = .int .i64 (m : Int) ∧ j ≤ nc ∧ Acc (St.totals (l.take i) + 1 + x.a.part + x.b.part + St.totals x.body + Cs.totals (x.cases.take j)) left 3 m ∧ Below w4.heap.size w4 wx)
            case atStart => exact ⟨0, m4, rfl, rfl, rfl, by omega, by simpa [Cs.totals, Hm4.out] using H4.out.2.2.2, Below.refl _ _⟩
            case round =>
              obtain ⟨j, m, hg2, rfl, rfl, hj, hm, hO⟩ := hrel
              have hml : (m : Int) ≤ left + 3 := by unfold Acc at hm; omega
              have HG2 := Lib.hid hg2
              have HOj := Lib.hid hO
              have Hm := Lib.hid hm
              have hst := H4.out.1.later hO q4
              have hbw : Below w0.heap.size w0 wr := H4.out.2.2.1.trans (hO.mono H4.out.2.2.1.size)
              have HBw := Lib.hid hbw
              have q5 : Wr.heap.size < wr.heap.size := by have := hO.size; omega
              have Hst := Lib.hid hst
              obtain ⟨i0, i1, i2, i3, i4, i5, i6, i7, i8, i9, i10, i11, i12, i13⟩ := hst
              simp only [Nat.zero_add] at i0 i1 i2 i3 i4 i5 i6 i7 i8 i9 i10 i11 i12 i13
              clear i0 i1 i2 i3 i4 i5 i6 i7 i8 i9 i10 i11 hg2 hm hO
              by_cases hgo : j < nc ∧ (m : Int) ≤ left
              · obtain ⟨hj2, hmle⟩ := hgo
                obtain ⟨y, hy⟩ : ∃ y, x.cases[j]? = some y := ⟨_, List.getElem?_eq_getElem (by rw [← Hna.out.2.2]; exact hj2)⟩
                obtain ⟨bc, oc, rfl, hbc, hPc⟩ := Hy.out.2.2.2.2.1.at (i := j) hj2
                have hcs := (hPc y hy).later hbw hbc
                obtain ⟨hsb, hib⟩ := Hy.out.2.2.2.2.2 j y hy
                obtain ⟨ay, cy, hvy, -⟩ := hsb.form
                obtain ⟨ny, hny⟩ : ∃ n, n = y.body.length := ⟨_, rfl⟩
                rw [hvy, ← hny] at hcs hib
                obtain ⟨k0, k1⟩ := hcs
                have HD := Lib.hid (And.intro hib hy)
                clear hbw hPc hy hib hsb hvy hny i12
                go_wp2_with fail
                refine (HD.out.1 wr (left - m - 1) HBw.out (by omega) (by omega)).mono ?_
                rintro e w5 ⟨r, rfl, hr, hb5⟩
                have hrl : (r : Int) ≤ max 0 (left - m - 1 + 3) := by unfold CutN Acc at hr; omega
                have hr2 : Acc (St.totals (l.take i) + 1 + x.a.part + x.b.part + St.totals x.body + Cs.totals (x.cases.take (j + 1))) left 3 (m + (1 + r)) := by
                  have h1 := Hm.out
                  rw [Cs.totals_take HD.out.2, Cs.total_eq]
                  unfold CutN Acc at *
                  omega
                have H5 := Lib.hid (And.intro hr2 (HOj.out.trans (hb5.mono HOj.out.size)))
                clear hr hr2 hb5 k0 k1 i13
                go_wp2_with fail
                go_roundg (nc - (j + 1))
                case measure => have := HG2.out; omega
                case rel => exact ⟨j + 1, m + (1 + r), rfl, by go_num, by go_num, hj2, H5.out.1, H5.out.2⟩
              · have hfin : Acc (St.totals (l.take i) + 1 + x.a.part + x.b.part + St.totals x.body + Cs.totals x.cases) left 3 m := by
                  have h1 := Hm.out
                  by_cases hjn : j < nc
                  · have h2 := Cs.totals_le (l := x.cases) j
                    unfold Acc at *
                    omega
                  · rw [List.take_of_length_le (l := x.cases) (by rw [← Hna.out.2.2]; omega)] at h1
                    exact h1
                have Hfin := Lib.hid hfin
                clear hfin hbw
                rcases (by omega : (j < nc ∧ ¬ (m : Int) ≤ left) ∨ ¬ j < nc) with ⟨hj2, hml2⟩ | hj2
                all_goals
                  clear hgo
                  go_wp2_with fail
                  refine (Hy.out.2.2.2.1 wr (left - m) HBw.out (by omega) (by omega)).mono ?_
                  rintro e w5 ⟨r, rfl, hr, hb5⟩
                  have hrl : (r : Int) ≤ max 0 (left - m + 3) := by unfold CutN Acc at hr; omega
                  have hr2 := Hfin.out.sub hr
                  have hO5 : Below Wr.heap.size Wr w5 := H4.out.2.1.trans ((HOj.out.trans (hb5.mono HOj.out.size)).mono H4.out.2.1.size)
                  have H5 := Lib.hid (And.intro hr2 hO5)
                  clear hr hr2 hb5 hO5 i12 i13
                  go_wp2_with fail
                  go_roundg (n - (i + 1))
                  case measure => have := Hg.out; omega
                  case rel => exact ⟨i + 1, m + r, rfl, by go_num, by go_num, hin, by
                      have h := H5.out.1
                      have e : St.totals (l.take (i + 1)) = St.totals (l.take i) + 1 + x.a.part + x.b.part + St.totals x.body + Cs.totals x.cases + St.totals x.els := by
                        rw [St.totals_take Hx.out, St.total_eq]
                        omega
                      rw [e]
                      unfold CutN
                      exact ⟨fun h => by omega, fun _ => h⟩, HO.out.trans (H5.out.2.mono HO.out.size)⟩
      · have Hres : Hid (CutN (St.totals l) left m) := by
          show CutN _ _ _
          have h := St.totals_le (l := l) i
          have h3 := Hm.out
          unfold CutN Acc at *
          omega
        have HO2 := Lib.hid hO
        clear hO
        go_wp2_with fail
        go_ret
        exact ⟨m, rfl, Hres.out, HO2.out⟩
    · obtain rfl : n = i := by omega
      have Hres : Hid (CutN (St.totals l) left m) := by
        show CutN _ _ _
        have h3 := Hm.out
        rw [List.take_of_length_le (by rw [← Hn.out]; exact Nat.le_refl _)] at h3
        exact h3
      have HO2 := Lib.hid hO
      clear hO
      go_wp2_with fail
      go_ret
      exact ⟨m, rfl, Hres.out, HO2.out⟩
end Go.Proofs.Ytgcplcffejbniaa

/- tree.Nodes and R2.Nodes. -/
namespace Go.Proofs.Ytgcplcffejbniaa
open Go.RowKit

def Fn.count : List Fn → Nat
  | [] => 0
  | f :: l => St.totals f.body + Fn.count l
theorem Fn.count_snoc (l : List Fn) (x : Fn) : Fn.count (l ++ [x]) = Fn.count l + St.totals x.body := by
  induction l with
  | nil => simp [Fn.count]
  | cons y l ih => simp only [List.cons_append, Fn.count, ih]; omega
theorem Fn.count_take {l : List Fn} {i : Nat} {x : Fn} (h : l[i]? = some x) : Fn.count (l.take (i + 1)) = Fn.count (l.take i) + St.totals x.body := by rw [take_next h, Fn.count_snoc]
theorem Fn.count_le {l : List Fn} (i : Nat) : Fn.count (l.take i) ≤ Fn.count l := by
  induction l generalizing i with
  | nil => simp
  | cons y l ih => cases i with
    | zero => simp [Fn.count]
    | succ i => simp only [List.take_succ_cons, Fn.count]; have := ih i; omega
set_option maxRecDepth 100000 in
set_option maxHeartbeats 2000000 in
theorem nodes_any (p : Pg) (vw vf : Value) (vp vb : Nat → Value) (w : World) (h : PgIn w p vw vf vp vb) : Calls Try.prog 18 #[pgV vw vf] w (Gives (.int .i64 (upto (Fn.count p.funcs) : Nat)) w) := by
  obtain ⟨hw, hr, hpp, hbb⟩ := h
  obtain ⟨-, aw, cw, rfl, -⟩ := hw
  obtain ⟨a, cap, rfl, hncap, hcap⟩ := hr.form
  obtain ⟨n, hn⟩ : ∃ n, n = p.funcs.length := ⟨_, rfl⟩
  have hn62 : n ≤ 9223372036854775807 := by have : maxLen ≤ 9223372036854775807 := by decide
                                            omega
  obtain ⟨nw, hnw⟩ : ∃ n, n = p.widen.length := ⟨_, rfl⟩
  have Hn := Lib.hid hn
  have Hrow : Hid (RowOf w (.slice a n cap) p.funcs.length 3 (fun b o i => ∀ x, p.funcs[i]? = some x → FnCells w b o x (vp i) (vb i))) := by rw [hn]; exact hr
  have Hf := Lib.hid (And.intro hpp hbb)
  obtain ⟨W0, hW0⟩ : ∃ W0, W0 = (w.alloc (.cells #[.slice aw nw cw, .slice a n cap] 26)).alloc (.cells #[.int .i64 0] 80) := ⟨_, rfl⟩
  have hs0 : W0.heap.size = w.heap.size + 2 := by rw [hW0]; simp
  have hb0 : Below w.heap.size w W0 := by rw [hW0]; exact ((Below.refl _ _).alloc (Nat.le_refl _) _).alloc (by (try simp only [World.size_alloc]); (try simp only [size_set]); omega) _
  have hc0 : CAt W0 (w.heap.size + 1) 0 := by
    rw [hW0]
    refine ⟨?_, ?_, by omega⟩
    · exact World.cell?_alloc_at _ _ _ _ (by simp)
    · exact World.frozen?_alloc_at _ _ _ _ (by simp)
  have H0 := Lib.hid (And.intro hs0 (And.intro hb0 hc0))
  have HW0 := Lib.hid hW0
  rw [← hn] at hncap ⊢
  rw [← hnw]
  unfold pgV
  clear hr hpp hbb hn hnw hs0 hb0 hc0 hW0
  go_enter Try.func18, Try.ntmps18
  go_wp2_with fail
  rw [← HW0.out]
  obtain ⟨c, hc⟩ : ∃ c, c = w.heap.size + 1 := ⟨_, rfl⟩
  rw [← hc] at H0 ⊢
  have hcw : w.heap.size < c := by omega
  have hcW : c < W0.heap.size := by have := H0.out.1; omega
  clear hc HW0
  go_loopg [9] n (fun g iv wx => ∃ i : Nat, g = n - i ∧ iv = .int .i64 (i : Int) ∧ i ≤ n ∧ CAt wx c (upto (Fn.count (p.funcs.take i))) ∧ Oth (· = c) W0 wx)
  case atStart => exact ⟨0, rfl, rfl, Nat.zero_le _, by simpa [Fn.count, upto] using H0.out.2.2, Oth.refl _ _⟩
  case round =>
    obtain ⟨i, hg, rfl, hi, hC, hO⟩ := hrel
    have HO := Lib.hid hO
    have hB : Below w.heap.size w wr := H0.out.2.1.trans (hO.below (by omega) fun _ e => by omega)
    by_cases hin : i < n
    · obtain ⟨x, hx⟩ : ∃ x, p.funcs[i]? = some x := ⟨_, List.getElem?_eq_getElem (by rw [← Hn.out]; exact hin)⟩
      obtain ⟨b, off, rfl, hb, hP⟩ := Hrow.out.at (i := i) (by rw [← Hn.out]; exact hin)
      have hfc := (hP x hx).later hB hb
      obtain ⟨ap, cp, hvp, -⟩ := (Hf.out.1 i x hx).form
      obtain ⟨ab, cb, hvb, -⟩ := (Hf.out.2 i x hx).form
      have hct := stmts_any _ _ _ (Hf.out.2 i x hx)
      obtain ⟨np, hnp⟩ : ∃ n, n = x.params.length := ⟨_, rfl⟩
      obtain ⟨nb, hnb⟩ : ∃ n, n = x.body.length := ⟨_, rfl⟩
      rw [hvb, ← hnb] at hct
      rw [hvp, hvb, ← hnp, ← hnb] at hfc
      obtain ⟨i0, i1, i2⟩ := hfc
      obtain ⟨W1, hW1⟩ : ∃ W1, W1 = wr.alloc (.cells #[.string x.name, .slice ap np cp, .slice ab nb cb] 40) := ⟨_, rfl⟩
      have hC1 : CAt W1 c (upto (Fn.count (p.funcs.take i))) := by rw [hW1]; exact hC.later ((Below.refl _ _).alloc (Nat.le_refl _) _)
      have hO1 : Oth (· = c) wr W1 := by rw [hW1]; exact (Oth.refl _ _).alloc _
      have hB1 : Below w.heap.size w W1 := hB.trans (hO1.below hB.size fun _ e => by omega)
      have H1 := Lib.hid (And.intro hC1 (And.intro hO1 (And.intro hB1 (And.intro hct hx))))
      have HW1 := Lib.hid hW1
      have q0 := hB.size
      have Hg := Lib.hid hg
      clear hC hO hB hP hx hct hvp hvb hnp hnb hC1 hO1 hB1 hW1 hg
      go_wp2_with fail
      rw [← HW1.out]
      refine (H1.out.2.2.2.1 W1 c _ H1.out.2.2.1 (by omega) H1.out.1).mono ?_
      rintro e w3 ⟨rfl, hC3, hO3⟩
      rw [upto_add] at hC3
      have H3 := Lib.hid (And.intro hC3 (H1.out.2.1.trans hO3))
      clear hC3 hO3 i0 i1 i2
      go_wp2_with fail
      go_roundg (n - (i + 1))
      case measure => have := Hg.out; omega
      case rel => exact ⟨i + 1, rfl, by go_num, hin, by rw [Fn.count_take H1.out.2.2.2.2]; exact H3.out.1, HO.out.trans H3.out.2⟩
    · obtain rfl : n = i := by omega
      have Hres : Hid (Fn.count (p.funcs.take n) = Fn.count p.funcs) := by show _ = _; rw [List.take_of_length_le (by rw [← Hn.out]; exact Nat.le_refl _)]
      have hcell := hC.cell
      have hle := upto_le (Fn.count (p.funcs.take n))
      rw [Hres.out] at hcell hle
      obtain ⟨r, hr⟩ : ∃ r, r = upto (Fn.count p.funcs) := ⟨_, rfl⟩
      rw [← hr] at hcell hle
      have HB := Lib.hid hB
      have Hr := Lib.hid hr
      clear hin hC hO hB hr
      go_wp2_with fail
      go_ret
      exact ⟨by rw [← Hr.out]; rfl, HB.out⟩
end Go.Proofs.Ytgcplcffejbniaa

/- scan.Name and R1.Name: may a text be a name? -/
namespace Go.Proofs.Ytgcplcffejbniaa
open Go.RowKit

def isLet (c : Int) : Bool := decide (97 ≤ c) && decide (c ≤ 122)
def isDig (c : Int) : Bool := decide (48 ≤ c) && decide (c ≤ 57)
theorem letter_any (c : Int) (W : World) : Calls Try.prog 112 #[.int .u8 c] W (fun e W' => e = .returned (.bool (isLet c)) ∧ W = W') := by
  by_cases h1 : (97 : Int) ≤ c <;> by_cases h2 : c ≤ 122
  all_goals
    go_enter Try.func112, Try.ntmps112
    go_wp2_with fail
    go_ret
    refine ⟨?_, rfl⟩
    simp [isLet, h1, h2]
theorem digit_any (c : Int) (W : World) : Calls Try.prog 130 #[.int .u8 c] W (fun e W' => e = .returned (.bool (isDig c)) ∧ W = W') := by
  by_cases h1 : (48 : Int) ≤ c <;> by_cases h2 : c ≤ 57
  all_goals
    go_enter Try.func130, Try.ntmps130
    go_wp2_with fail
    go_ret
    refine ⟨?_, rfl⟩
    simp [isDig, h1, h2]
def isAl (c : Int) : Bool := isLet c || isDig c
theorem alnum_any (c : Int) (W : World) : Calls Try.prog 114 #[.int .u8 c] W (fun e W' => e = .returned (.bool (isAl c)) ∧ W = W') := by
  go_enter Try.func114, Try.ntmps114
  go_wp2_with fail
  refine (letter_any c W).mono ?_
  rintro e w ⟨rfl, hw⟩
  rw [← hw]
  clear hw
  obtain ⟨z, hz⟩ : ∃ z, z = isLet c := ⟨_, rfl⟩
  have Hz := Lib.hid hz
  rw [← hz]
  clear hz
  cases z
  · go_wp2_with fail
    refine (digit_any c W).mono ?_
    rintro e w ⟨rfl, hw⟩
    rw [← hw]
    clear hw
    go_wp2_with fail
    go_ret
    exact ⟨by simp only [isAl, ← Hz.out]; rfl, rfl⟩
  · go_wp2_with fail
    go_ret
    exact ⟨by simp only [isAl, ← Hz.out]; rfl, rfl⟩
/-- The number of the byte at a place. -/
def byteN (s : ByteArray) (i : Nat) : Int := if h : i < s.size then ((s[i]'h).toNat : Int) else 0
theorem byteN_eq {s : ByteArray} {i : Nat} (h : i < s.size) : ((s[i]'h).toNat : Int) = byteN s i := by unfold byteN; rw [dif_pos h]
def allAl (s : ByteArray) : Prop := ∀ i, i < s.size → isAl (byteN s i) = true
/-- Where the row of letters and digits ends that begins at a place. -/
theorem row_any (s : ByteArray) (W : World) (hs : s.size ≤ 16) : Calls Try.prog 113 #[.string s, .int .i64 0, .func (.func 114) #[] #[]] W (fun e W' => ∃ k : Nat, e = .returned (.int .i64 (k : Int)) ∧ W = W' ∧ k ≤ s.size ∧ (∀ i, i < k → isAl (byteN s i) = true) ∧ (k < s.size → isAl (byteN s k) = false)) := by
  go_enter Try.func113, Try.ntmps113
  go_wp2_with fail
  go_loopg [1] s.size (fun g iv wx => ∃ i : Nat, g = s.size - i ∧ iv = .int .i64 (i : Int) ∧ i ≤ s.size ∧ (∀ j, j < i → isAl (byteN s j) = true) ∧ wx = W)
  case atStart => exact ⟨0, rfl, rfl, Nat.zero_le _, fun j h => by omega, rfl⟩
  case round =>
    obtain ⟨i, hg, rfl, hi, hp, rfl⟩ := hrel
    have Hp := Lib.hid hp
    clear hp
    by_cases hin : i < s.size
    · go_wp2_with fail
      refine (alnum_any _ _).mono ?_
      rintro e w1 ⟨rfl, hw⟩
      rw [← hw, byteN_eq hin]
      clear hw
      obtain ⟨z, hz⟩ : ∃ z, z = isAl (byteN s i) := ⟨_, rfl⟩
      have Hz := Lib.hid hz
      rw [← hz]
      clear hz
      cases z
      · go_wp2_with fail
        go_ret
        exact ⟨i, rfl, rfl, by omega, Hp.out, fun _ => Hz.out.symm⟩
      · go_wp2_with fail
        go_roundg (s.size - (i + 1))
        case measure => omega
        case rel => exact ⟨i + 1, rfl, by go_num, hin, fun j hj => by
          by_cases e : j = i
          · subst e; exact Hz.out.symm
          · exact Hp.out j (by omega), rfl⟩
    · go_wp2_with fail
      go_ret
      exact ⟨i, rfl, rfl, by omega, Hp.out, fun h => absurd h hin⟩
def wordsL : List (List UInt8) := [[119, 105, 100, 101, 110], [102, 110], [108, 101, 116], [102, 111, 114], [105, 110], [105, 102], [101, 108, 115, 101], [115, 119, 105, 116, 99, 104], [99, 97, 115, 101], [98, 114, 101, 97, 107], [114, 101, 116, 117, 114, 110]]
def wordB (s : ByteArray) : Bool := decide (s.toList ∈ wordsL)
theorem word_any (s : ByteArray) (W : World) : Calls Try.prog 115 #[.string s] W (fun e W' => e = .returned (.bool (wordB s)) ∧ W = W') := by
  have hw : wordB s = decide (s.toList ∈ wordsL) := rfl
  unfold wordsL at hw
  simp only [List.mem_cons, List.not_mem_nil, or_false] at hw
  have Hw := Lib.hid hw
  clear hw
  go_enter Try.func115, Try.ntmps115
  go_wp2_with fail
  all_goals
    go_ret
    refine ⟨?_, rfl⟩
    rw [Hw.out]
    simp_all
/-- May a text be a name? -/
def nameB (s : ByteArray) : Bool := decide (s.size ≤ 16) && decide (0 < s.size) && isLet (byteN s 0) && (List.range s.size).all (fun i => isAl (byteN s i)) && !wordB s
theorem empty_iff (s : ByteArray) : (s.toList == []) = decide (s.size = 0) := by
  have h1 : s.size = s.toList.length := by rw [ByteArray.toList_eq s, Array.length_toList]; rfl
  rw [h1]
  cases s.toList <;> rfl
theorem all_al {s : ByteArray} : (List.range s.size).all (fun i => isAl (byteN s i)) = true ↔ ∀ i, i < s.size → isAl (byteN s i) = true := by simp [List.all_eq_true]
set_option maxHeartbeats 1000000 in
theorem name_any (s : ByteArray) (W : World) : Calls Try.prog 93 #[.string s] W (fun e W' => e = .returned (.bool (nameB s)) ∧ W = W') := by
  have he := empty_iff s
  by_cases h0 : s.size = 0
  · have hq : s.toList = [] := by simpa [h0] using he
    have Hres : Hid (nameB s = false) := by show _ = _; simp [nameB, h0]
    clear he h0
    go_enter Try.func93, Try.ntmps93
    go_wp2_with fail
    go_ret
    exact ⟨by rw [Hres.out]; rfl, rfl⟩
  · have hq : ¬ s.toList = [] := by simpa [h0] using he
    have h1 : 0 < s.size := by omega
    have hq2 : s.toList.isEmpty = false := by simp [hq]
    obtain ⟨z, hz⟩ : ∃ z, z = isLet (byteN s 0) := ⟨_, rfl⟩
    have Hz := Lib.hid hz
    have hby := byteN_eq h1
    have Hby := Lib.hid hby
    clear he hz hby h0
    go_enter Try.func93, Try.ntmps93
    go_wp2_with fail
    refine (letter_any _ _).mono ?_
    rintro e w1 ⟨rfl, hw⟩
    rw [← hw, Hby.out, ← Hz.out]
    clear hw
    cases z
    · have Hres : Hid (nameB s = false) := by show _ = _; simp [nameB, ← Hz.out]
      go_wp2_with fail
      go_ret
      exact ⟨by rw [Hres.out]; rfl, rfl⟩
    · by_cases h2 : s.size ≤ 16
      · have hq3 : decide ((16 : Int) < s.size) = false := by simp; omega
        go_wp2_with fail
        refine (row_any s _ h2).mono ?_
        rintro e w1 ⟨k, rfl, hw, hk, hal, hno⟩
        rw [← hw]
        have HR := Lib.hid (And.intro hal hno)
        clear hw hal hno
        by_cases hks : k = s.size
        · obtain ⟨b, hb⟩ : ∃ b, b = wordB s := ⟨_, rfl⟩
          have Hb := Lib.hid hb
          have Hres : Hid (nameB s = !b) := by
            show _ = _
            have : (List.range s.size).all (fun i => isAl (byteN s i)) = true := all_al.2 (by rw [← hks]; exact HR.out.1)
            simp [nameB, ← Hz.out, h1, h2, ← hb, this]
          subst hks
          clear hb
          go_wp2_with fail
          refine (word_any s _).mono ?_
          rintro e w1 ⟨rfl, hw⟩
          rw [← hw, ← Hb.out]
          clear hw
          go_wp2_with fail
          go_ret
          exact ⟨by rw [Hres.out]; rfl, rfl⟩
        · have hkl : k < s.size := by omega
          have Hres : Hid (nameB s = false) := by
            show _ = _
            have : ¬ (List.range s.size).all (fun i => isAl (byteN s i)) = true := fun h => by
              have := all_al.1 h k hkl
              rw [HR.out.2 hkl] at this
              cases this
            simp only [Bool.not_eq_true] at this
            simp [nameB, this]
          go_wp2_with fail
          go_ret
          exact ⟨by rw [Hres.out]; rfl, rfl⟩
      · have Hres : Hid (nameB s = false) := by show _ = _; simp [nameB, h2]
        go_wp2_with fail
        go_ret
        exact ⟨by rw [Hres.out]; rfl, rfl⟩
end Go.Proofs.Ytgcplcffejbniaa

/- R1.Name: may a text be a name? -/
namespace Go.Proofs.Ytgcplcffejbniaa
open Go.RowKit

def wordsS : List ByteArray := wordsL.map (fun l => ⟨l.toArray⟩)
def plainB (s : ByteArray) : Bool := decide (0 < s.size) && isLet (byteN s 0) && (List.range s.size).all (fun i => isAl (byteN s i))
end Go.Proofs.Ytgcplcffejbniaa

namespace Go.Proofs.Ytgcplcffejbniaa
open Go.RowKit

def arityN (k : Int) : Int := if k = 1 ∨ k = 2 then 0 else if k = 3 ∨ k = 5 ∨ k = 6 then 1 else if k = 4 then -1 else if k = 20 then 3 else 2
def namedB (k : Int) : Bool := decide (k = 2 ∨ k = 3 ∨ k = 4)
def kindB (k : Int) : Bool := decide (1 ≤ k ∧ k ≤ 20)
def Ex.badForm (x : Ex) : Bool := !kindB x.kind || (decide (0 ≤ arityN x.kind) && decide ((x.args.length : Int) ≠ arityN x.kind)) || (decide (x.n ≠ 0) && decide (x.kind ≠ 1)) || (decide (x.name.toList ≠ []) && !namedB x.kind)
/-- What is wrong with an expression itself. -/
def Ex.own (x : Ex) (level : Int) : Int := if 32 < level then 20 else if x.badForm = true then 5 else if (namedB x.kind && !nameB x.name) = true then 8 else if x.n < 0 then 1 else 0
mutual
/-- What is wrong first with an expression. -/
def Ex.err : Ex → Int → Int
  | .mk k n s l, level => if Ex.own (.mk k n s l) level ≠ 0 then Ex.own (.mk k n s l) level else Ex.errs l (level + 1)
def Ex.errs : List Ex → Int → Int
  | [], _ => 0
  | x :: l, level => if Ex.err x level ≠ 0 then Ex.err x level else Ex.errs l level
end
theorem Ex.err_eq (x : Ex) (level : Int) : x.err level = if x.own level ≠ 0 then x.own level else Ex.errs x.args (level + 1) := by cases x; simp only [Ex.err, Ex.args]
theorem Ex.errs_stop {l : List Ex} {level : Int} {i : Nat} {x : Ex} (h : l[i]? = some x) (hn : ∀ j y, j < i → l[j]? = some y → y.err level = 0) (he : x.err level ≠ 0) : Ex.errs l level = x.err level := by
  induction l generalizing i with
  | nil => simp at h
  | cons y l ih =>
    cases i with
    | zero => simp at h; subst h; simp [Ex.errs, he]
    | succ i =>
      have h0 := hn 0 y (by omega) rfl
      simp only [Ex.errs, h0]
      simpa using ih (by simpa using h) (fun j z hj hz => hn (j + 1) z (by omega) (by simpa using hz))
theorem Ex.errs_none {l : List Ex} {level : Int} (hn : ∀ (j : Nat) y, l[j]? = some y → y.err level = 0) : Ex.errs l level = 0 := by
  induction l with
  | nil => simp [Ex.errs]
  | cons y l ih =>
    have h0 := hn 0 y rfl
    simp only [Ex.errs, h0]
    simpa using ih (fun j z hz => hn (j + 1) z (by simpa using hz))
theorem arity_any (k : Int) (W : World) : Calls Try.prog 118 #[.int .i64 k] W (fun e W' => e = .returned (.tuple #[.int .i64 (arityN k), .bool (namedB k), .bool (kindB k)]) ∧ W = W') := by
  have key : ∀ (a : Int) (n b : Bool), arityN k = a → namedB k = n → kindB k = b → Ending.returned (.tuple #[.int .i64 a, .bool n, .bool b]) = Ending.returned (.tuple #[.int .i64 (arityN k), .bool (namedB k), .bool (kindB k)]) := by
    rintro _ _ _ rfl rfl rfl; rfl
  have Key := Lib.hid key
  clear key
  by_cases h1 : k = 1
  · subst h1; go_enter Try.func118, Try.ntmps118; go_wp2_with fail; go_ret3; exact ⟨rfl, rfl⟩
  by_cases h2 : k = 2
  · subst h2; go_enter Try.func118, Try.ntmps118; go_wp2_with fail; go_ret3; exact ⟨rfl, rfl⟩
  by_cases h3 : k = 3
  · subst h3; go_enter Try.func118, Try.ntmps118; go_wp2_with fail; go_ret3; exact ⟨rfl, rfl⟩
  by_cases h4 : k = 4
  · subst h4; go_enter Try.func118, Try.ntmps118; go_wp2_with fail; go_ret3; exact ⟨rfl, rfl⟩
  by_cases h5 : k = 5
  · subst h5; go_enter Try.func118, Try.ntmps118; go_wp2_with fail; go_ret3; exact ⟨rfl, rfl⟩
  by_cases h6 : k = 6
  · subst h6; go_enter Try.func118, Try.ntmps118; go_wp2_with fail; go_ret3; exact ⟨rfl, rfl⟩
  by_cases h20 : k = 20
  · subst h20; go_enter Try.func118, Try.ntmps118; go_wp2_with fail; go_ret3; exact ⟨rfl, rfl⟩
  by_cases h7 : 7 ≤ k <;> by_cases h19 : k ≤ 19
  all_goals
    have ha : Hid (arityN k = 2) := by show _ = _; simp [arityN]; omega
    have hn : Hid (namedB k = false) := by show _ = _; simp [namedB, h2, h3, h4]
  · have hb : Hid (kindB k = true) := by show _ = _; simp [kindB]; omega
    go_enter Try.func118, Try.ntmps118; go_wp2_with fail; go_ret3; exact ⟨Key.out _ _ _ ha.out hn.out hb.out, rfl⟩
  all_goals
    have hb : Hid (kindB k = false) := by show _ = _; simp [kindB]; omega
    first
    | (exfalso; omega)
    | (go_enter Try.func118, Try.ntmps118; go_wp2_with fail; go_ret3; exact ⟨Key.out _ _ _ ha.out hn.out hb.out, rfl⟩)
def argsN (k : Int) : Int := if kindB k = true then arityN k else -2
end Go.Proofs.Ytgcplcffejbniaa
