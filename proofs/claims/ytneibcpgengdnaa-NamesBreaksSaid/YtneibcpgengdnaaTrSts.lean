/- tree.Nodes: statements counted. -/
import Derived.Test.YtneibcpgengdnaaTrRef
namespace Go.Proofs.Ytneibcpgengdnaa
open Go.RowKit

def St.parts (x : St) : Nat → Nat
  | 0 => 0
  | 1 => x.a.part
  | _ => x.a.part + x.b.part
theorem StAt.box (w : World) (x : St) (va vb vd ve vc : Value) (t : TypeId) : StAt (w.alloc (.cells #[.int .i64 x.kind, .string x.name, .int .i64 x.n, .int .i64 x.a.kind, .int .i64 x.a.n, .string x.a.name, va, .int .i64 x.b.kind, .int .i64 x.b.n, .string x.b.name, vb, vd, ve, vc] t)) w.heap.size 0 x va vb vd ve vc := by
  constructor <;> exact World.cell?_alloc_at _ _ _ _ rfl
theorem CAt.oth {S : Nat → Prop} {W W' : World} {c k : Nat} (h : CAt W c k) (hO : Oth S W W') (hs : ¬ S c) : CAt W' c k := ⟨(hO.cell (p := ⟨c, 0, none⟩) h.lt hs).trans h.cell, (hO.frozen (p := ⟨c, 0, none⟩) h.lt hs).trans h.free, h.le⟩
/-- How a list of statements is counted. -/
def Counts (w0 : World) (l : List St) (v : Value) : Prop := ∀ W c k, Below w0.heap.size w0 W → w0.heap.size ≤ c → CAt W c k →
    Calls Try.prog 51 #[ptrV c, v] W (fun e W' => e = .returned (.tuple #[]) ∧ CAt W' c (upto (k + St.totals l)) ∧ Oth (· = c) W W')
def CountsE (w0 : World) (l : List Ex) (v : Value) : Prop := ∀ W c k, Below w0.heap.size w0 W → w0.heap.size ≤ c → CAt W c k →
    Calls Try.prog 76 #[ptrV c, v] W (fun e W' => e = .returned (.tuple #[]) ∧ CAt W' c (upto (k + Ex.totals l)) ∧ Oth (· = c) W W')
set_option maxRecDepth 100000 in
set_option maxHeartbeats 4000000 in
theorem stmts_any (l : List St) (v : Value) (w0 : World) (h : StsIn w0 l v) : Counts w0 l v := by
  induction h with
  | mk l v va vb vd ve vc vk h ha hb hd he hc hk ihd ihe ihk =>
  intro W c k hB hcb hC
  obtain ⟨a, cap, rfl, hncap, hcap⟩ := h.form
  obtain ⟨n, hn⟩ : ∃ n, n = l.length := ⟨_, rfl⟩
  have hk1 := hC.le
  have Hn := Lib.hid hn
  have Hrow : Hid (RowOf w0 (.slice a n cap) l.length 14 (fun b o i => ∀ x, l[i]? = some x → StAt w0 b o x (va i) (vb i) (vd i) (ve i) (vc i))) := by rw [hn]; exact h
  have Hih := Lib.hid (And.intro ihd (And.intro ihe ihk))
  have Hf := Lib.hid (And.intro ha (And.intro hb (And.intro hd (And.intro he (And.intro hc hk)))))
  have HB := Lib.hid hB
  have HC := Lib.hid hC
  rw [← hn]
  rw [← hn] at hncap
  have hn62 : n ≤ 9223372036854775807 := by have : maxLen ≤ 9223372036854775807 := by decide
                                            omega
  clear h ha hb hd he hc hk ihd ihe ihk hn hB hC
  go_enter Try.func51, Try.ntmps51
  go_wp2_with fail
  go_loopg [12] n (fun g iv wx => ∃ i : Nat, g = n - i ∧ iv = .int .i64 (i : Int) ∧ i ≤ n ∧ CAt wx c (upto (k + St.totals (l.take i))) ∧ Oth (· = c) W wx)
  case atStart => exact ⟨0, rfl, rfl, Nat.zero_le _, by simpa [St.totals, upto_of hk1] using HC.out, Oth.refl _ _⟩
  case round =>
    obtain ⟨i, hg, rfl, hi, hC, hO⟩ := hrel
    have HO := Lib.hid hO
    by_cases hin : i < n
    · obtain ⟨Wr, hWr⟩ : ∃ Wr : World, Wr = wr := ⟨_, rfl⟩
      subst hWr
      obtain ⟨x, hx⟩ : ∃ x, l[i]? = some x := ⟨_, List.getElem?_eq_getElem (by rw [← Hn.out]; exact hin)⟩
      obtain ⟨b, off, rfl, hb, hP⟩ := Hrow.out.at (i := i) (by rw [← Hn.out]; exact hin)
      have hB : Below w0.heap.size w0 Wr := HB.out.trans (hO.below HB.out.size fun _ e => by omega)
      have hst := (hP x hx).later hB hb
      obtain ⟨fa, fb, fd, fe, fc, fk⟩ := Hf.out
      obtain ⟨aa, ca, hva, -⟩ := (fa i x hx).form
      obtain ⟨ab, cb, hvb, -⟩ := (fb i x hx).form
      obtain ⟨ad, cd, hvd, -⟩ := (fd i x hx).form
      obtain ⟨ae, ce, hve, -⟩ := (fe i x hx).form
      obtain ⟨ac, cc, hvc, hcc1, hcc2⟩ := (fc i x hx).form
      have fa' : CountsE w0 x.a.args (va i) := exprs_any _ _ _ (fa i x hx)
      have fb' : CountsE w0 x.b.args (vb i) := exprs_any _ _ _ (fb i x hx)
      have fd' : Counts w0 x.body (vd i) := Hih.out.1 i x hx
      have fe' : Counts w0 x.els (ve i) := Hih.out.2.1 i x hx
      have fc' := fc i x hx
      have fk' : ∀ (j : Nat) y, x.cases[j]? = some y → StsIn w0 y.body (vk i j) ∧ Counts w0 y.body (vk i j) := fun j y hy => ⟨fk i x j y hx hy, Hih.out.2.2 i x j y hx hy⟩
      obtain ⟨na, hna⟩ : ∃ n, n = x.a.args.length := ⟨_, rfl⟩
      obtain ⟨nb, hnb⟩ : ∃ n, n = x.b.args.length := ⟨_, rfl⟩
      obtain ⟨nd, hnd⟩ : ∃ n, n = x.body.length := ⟨_, rfl⟩
      obtain ⟨ne, hne⟩ : ∃ n, n = x.els.length := ⟨_, rfl⟩
      obtain ⟨nc, hnc⟩ : ∃ n, n = x.cases.length := ⟨_, rfl⟩
      rw [hva, hvb, hvd, hve, hvc, ← hna, ← hnb, ← hnd, ← hne, ← hnc] at hst
      rw [hva, ← hna] at fa'
      rw [hvb, ← hnb] at fb'
      rw [hvd, ← hnd] at fd'
      rw [hve, ← hne] at fe'
      rw [hvc, ← hnc] at fc'
      rw [← hnc] at hcc1
      have hnc62 : nc ≤ 9223372036854775807 := by have : maxLen ≤ 9223372036854775807 := by decide
                                                  omega
      have Hy := Lib.hid (And.intro fa' (And.intro fb' (And.intro fd' (And.intro fe' (And.intro fc' fk')))))
      have Hna := Lib.hid (And.intro hna (And.intro hnb hnc))
      have Hx := Lib.hid hx
      have Hg := Lib.hid hg
      have HB2 := Lib.hid hB
      have HC2 := Lib.hid hC
      obtain ⟨kk, hkk⟩ : ∃ kk, kk = upto (k + St.totals (l.take i)) := ⟨_, rfl⟩
      rw [← hkk] at hC HC2
      have Hkk := Lib.hid hkk
      obtain ⟨i0, i1, i2, i3, i4, i5, i6, i7, i8, i9, i10, i11, i12, i13⟩ := hst
      have q0 := block_lt_of_cell i0
      have q1 := hC.lt
      obtain ⟨W1, hW1⟩ : ∃ W1, W1 = Wr.alloc (.cells #[.int .i64 x.kind, .string x.name, .int .i64 x.n, .int .i64 x.a.kind, .int .i64 x.a.n, .string x.a.name, .slice aa na ca, .int .i64 x.b.kind, .int .i64 x.b.n, .string x.b.name, .slice ab nb cb, .slice ad nd cd, .slice ae ne ce, .slice ac nc cc] 47) := ⟨_, rfl⟩
      have hC1 : CAt W1 c kk := by rw [hW1]; exact hC.later ((Below.refl _ _).alloc (Nat.le_refl _) _)
      have hO1 : Oth (· = c) Wr W1 := by rw [hW1]; exact (Oth.refl _ _).alloc _
      have hs1 : W1.heap.size = Wr.heap.size + 1 := by rw [hW1]; simp
      have hv1 : StAt W1 Wr.heap.size 0 x (.slice aa na ca) (.slice ab nb cb) (.slice ad nd cd) (.slice ae ne ce) (.slice ac nc cc) := by rw [hW1]; exact StAt.box _ _ _ _ _ _ _ _
      have H1 := Lib.hid (And.intro hC1 (And.intro hO1 (And.intro hs1 hv1)))
      have HW1 := Lib.hid hW1
      clear hkk hC hB hO hP hx hg hC1 hO1 hs1 hW1 fa fb fd fe fc fk fa' fb' fd' fe' fc' fk' hna hnb hnd hne hnc hva hvb hvd hve hvc hcc1 hv1
      go_wp2_with fail
      rw [← HW1.out]
      refine (full_any c kk _ H1.out.1).mono ?_
      rintro e w1 ⟨rfl, hw1⟩
      rw [← hw1]
      clear hw1
      by_cases hf : 4096 < kk
      · have hq : decide (4096 < kk) = true := decide_eq_true hf
        have Hres : Hid (upto (k + St.totals l) = kk) := by
          show _ = _
          rw [Hkk.out] at hf ⊢
          exact upto_stop (St.totals_le i) hf
        rw [hq]
        clear hf hq
        go_wp2_with fail
        refine bodyPost_ret (results_none rfl _ _ _) rfl ?_
        exact ⟨rfl, by rw [Hres.out]; exact H1.out.1, HO.out.trans H1.out.2.1⟩
      · have hq : decide (4096 < kk) = false := decide_eq_false hf
        have hk2 : kk + 1 ≤ 4097 := by omega
        obtain ⟨W2, hW2⟩ : ∃ W2, W2 = W1.setCell ⟨c, 0, none⟩ (.int .i64 (((kk + 1 : Nat) : Int))) := ⟨_, rfl⟩
        have hC2 : CAt W2 c (kk + 1) := by rw [hW2]; exact H1.out.1.put hk2
        have hO2 : Oth (· = c) W1 W2 := by rw [hW2]; exact (Oth.refl (· = c) W1).set (p := ⟨c, 0, none⟩) rfl _
        have H2 := Lib.hid (And.intro hC2 (H1.out.2.1.trans hO2))
        have hv2 := H1.out.2.2.2.oth hO2 (by rw [H1.out.2.2.1]; omega) (by omega)
        have HS2 := Lib.hid hv2
        have hcell := H1.out.1.cell
        have hfree := H1.out.1.free
        have e1 : Hid ((kk : Int) + 1 = ((kk + 1 : Nat) : Int)) := by show _ = _; omega
        have q3 := H1.out.2.2.1
        have q4 : W2.heap.size = W1.heap.size := by rw [hW2, size_set]
        have HW2 := Lib.hid hW2
        rw [hq]
        clear hW2 hq hC2 hO2 hv2 i0 i1 i2 i3 i4 i5 i6 i7 i8 i9 i10 i11 i12 i13
        go_upto_region 5 with (fail)
        rw [e1.out, ← HW2.out]
        obtain ⟨i0, i1, i2, i3, i4, i5, i6, i7, i8, i9, i10, i11, i12, i13⟩ := HS2.out
        clear hcell hfree
        simp only [Nat.zero_add] at i0 i1 i2 i3 i4 i5 i6 i7 i8 i9 i10 i11 i12 i13
        go_wp2_with fail
        obtain ⟨W3, hW3⟩ : ∃ W3, W3 = W2.alloc (.cells #[.int .i64 x.a.kind, .int .i64 x.a.n, .string x.a.name, .slice aa na ca, .int .i64 x.b.kind, .int .i64 x.b.n, .string x.b.name, .slice ab nb cb] 44) := ⟨_, rfl⟩
        rw [← hW3]
        obtain ⟨D, qD⟩ : ∃ D, D = Wr.heap.size + 1 := ⟨_, rfl⟩
        have hD : D = W2.heap.size := by omega
        rw [← qD]
        have hO3 : Oth (· = c) W2 W3 := by rw [hW3]; exact (Oth.refl _ _).alloc _
        have hs3 : W3.heap.size = D + 1 := by rw [hW3, hD]; simp
        have hea : ExAt W3 D 0 x.a (.slice aa na ca) := by rw [hW3, hD]; constructor <;> exact World.cell?_alloc_at _ _ _ _ rfl
        have heb : ExAt W3 D 4 x.b (.slice ab nb cb) := by rw [hW3, hD]; constructor <;> exact World.cell?_alloc_at _ _ _ _ rfl
        have hst3 := HS2.out.oth hO3 (by omega) (by omega)
        have hC3 : CAt W3 c (kk + 1) := by rw [hW3]; exact H2.out.1.later ((Below.refl _ _).alloc (Nat.le_refl _) _)
        have H3 := Lib.hid (And.intro hC3 (And.intro (H2.out.2.trans hO3) (And.intro hst3 (And.intro hea heb))))
        have q5 : Wr.heap.size < D := by omega
        clear qD hC3 hW3 hD hO3 hea heb hst3 i0 i1 i2 i3 i4 i5 i6 i7 i8 i9 i10 i11 i12 i13 HS2 HW2 e1 q4 q3 H1 HW1 hk2 hf HC2 H2 q0 W1 W2
        go_loopg [31] 2 (fun g jv wx => ∃ j : Nat, g = 2 - j ∧ jv = .int .i64 (j : Int) ∧ j ≤ 2 ∧ CAt wx c (upto (kk + 1 + x.parts j)) ∧ Oth (· = c) W3 wx)
        case atStart => exact ⟨0, rfl, rfl, by omega, by simpa [St.parts, upto_of H3.out.1.le] using H3.out.1, Oth.refl _ _⟩
        case round =>
          obtain ⟨j, hg2, rfl, hj, hC, hO⟩ := hrel
          have HG2 := Lib.hid hg2
          have HOj := Lib.hid hO
          have HCj := Lib.hid hC
          have qs := hO.size
          clear hg2
          by_cases hj2 : j < 2
          · obtain ⟨y, ay, ny, cy, hey, hny, hcy, hpy⟩ : ∃ y ay ny cy, ExAt W3 D (j * 4) y (.slice ay ny cy) ∧ ny = y.args.length ∧ CountsE w0 y.args (.slice ay ny cy) ∧ x.parts (j + 1) = x.parts j + y.part := by
              rcases (by omega : j = 0 ∨ j = 1) with rfl | rfl
              · exact ⟨x.a, aa, na, ca, H3.out.2.2.2.1, Hna.out.1, Hy.out.1, by simp [St.parts]⟩
              · exact ⟨x.b, ab, nb, cb, H3.out.2.2.2.2, Hna.out.2.1, Hy.out.2.1, by simp [St.parts]⟩
            have hwb : Below w0.heap.size w0 wr := HB2.out.trans ((H3.out.2.1.trans hO).below HB2.out.size fun _ e => by omega)
            obtain ⟨i0, i1, i2, i3⟩ := hey.oth hO (by omega) (by omega)
            have hDw : D < wr.heap.size := by omega
            obtain ⟨W4, hW4⟩ : ∃ W4, W4 = wr.alloc (.cells #[.int .i64 y.kind, .int .i64 y.n, .string y.name, .slice ay ny cy] 44) := ⟨_, rfl⟩
            have hb4 : Below wr.heap.size wr W4 := by rw [hW4]; exact (Below.refl _ _).alloc (Nat.le_refl _) _
            have he4 : ExAt W4 wr.heap.size 0 y (.slice ay ny cy) := by rw [hW4]; constructor <;> exact World.cell?_alloc_at _ _ _ _ rfl
            have hs4 : W4.heap.size = wr.heap.size + 1 := by rw [hW4]; simp
            have H4 := Lib.hid (And.intro hb4 (And.intro he4 hs4))
            have HW4 := Lib.hid hW4
            have Hw := Lib.hid (And.intro hwb (And.intro hny (And.intro hcy hpy)))
            clear hb4 he4 hs4 hW4 hwb hny hcy hpy hey hO hC
            go_wp2_with fail
            rw [← HW4.out]
            refine (zero_any y (.slice ay ny cy) ay cy _ (by rw [Hw.out.2.1])).mono ?_
            rintro e w5 ⟨rfl, hb5⟩
            have q6 := hb5.size
            have q7 := H4.out.2.2
            have he5 := H4.out.2.1.later hb5 (by omega)
            have hO5 : Oth (· = c) wr w5 := (Oth.of_below H4.out.1).trans (.of_below hb5)
            have hC5 := HCj.out.later (H4.out.1.trans (hb5.mono (by omega)))
            have H5 := Lib.hid (And.intro he5 (And.intro hO5 hC5))
            obtain ⟨z, hz⟩ : ∃ z, z = y.zero := ⟨_, rfl⟩
            have Hz := Lib.hid hz
            rw [← hz]
            clear hz hb5 he5 hO5 hC5 i0 i1 i2 i3
            cases z
            · obtain ⟨j0, j1, j2, j3⟩ := H5.out.1
              simp only [Nat.zero_add] at j0 j1 j2 j3
              obtain ⟨W6, hW6⟩ : ∃ W6, W6 = w5.alloc (.cells #[.int .i64 y.kind, .int .i64 y.n, .string y.name, .slice ay ny cy] 44) := ⟨_, rfl⟩
              have hb6 : Below w5.heap.size w5 W6 := by rw [hW6]; exact (Below.refl _ _).alloc (Nat.le_refl _) _
              have he6 : ExAt W6 w5.heap.size 0 y (.slice ay ny cy) := by rw [hW6]; constructor <;> exact World.cell?_alloc_at _ _ _ _ rfl
              have hs6 : W6.heap.size = w5.heap.size + 1 := by rw [hW6]; simp
              have H6 := Lib.hid (And.intro hb6 (And.intro he6 hs6))
              have HW6 := Lib.hid hW6
              clear hb6 he6 hs6 hW6
              go_wp2_with fail
              rw [← HW6.out]
              clear j0 j1 j2 j3
              have hO6 : Oth (· = c) wr W6 := H5.out.2.1.trans (.of_below H6.out.1)
              refine (exprs_row [y] _ (fun _ => .slice ay ny cy) W6 c (upto (kk + 1 + x.parts j)) ?_ ?_ ?_ (H5.out.2.2.later H6.out.1)).mono ?_
              · refine ⟨_, _, rfl, Nat.le_refl _, by decide, (by intro h; cases h), fun _ => ⟨_, _, rfl, by rw [H6.out.2.2]; omega, fun i hi => ⟨by omega, fun x hx => ?_⟩⟩⟩
                obtain rfl : i = 0 := by simpa using hi
                cases hx
                simpa using H6.out.2.1
              · intro i x hx
                obtain rfl : i = 0 := by
                  have := (List.getElem?_eq_some_iff.1 hx).1
                  simpa using this
                cases hx
                exact ⟨_, _, by rw [Hw.out.2.1]⟩
              · intro i x hx W' k' hO' hC'
                obtain rfl : i = 0 := by
                  have := (List.getElem?_eq_some_iff.1 hx).1
                  simpa using this
                cases hx
                exact Hw.out.2.2.1 W' c k' (Hw.out.1.trans ((hO6.trans hO').below Hw.out.1.size fun _ e => by omega)) hcb hC'
              · rintro e w7 ⟨rfl, hC7, hO7⟩
                have H7 := Lib.hid (And.intro hC7 (hO6.trans hO7))
                clear hC7 hO7 hO6
                go_wp2_with fail
                go_roundg (2 - (j + 1))
                case measure => have := HG2.out; omega
                case rel => exact ⟨j + 1, rfl, by go_num, hj2, by
                    have h := H7.out.1
                    rw [upto_add] at h
                    have h1 : Ex.totals [y] = y.part := by simp only [Ex.totals, Ex.part, ← Hz.out]; simp
                    rw [h1, Nat.add_assoc, ← Hw.out.2.2.2] at h
                    exact h, HOj.out.trans H7.out.2⟩
            · go_wp2_with fail
              go_roundg (2 - (j + 1))
              case measure => have := HG2.out; omega
              case rel => exact ⟨j + 1, rfl, by go_num, hj2, by
                  rw [Hw.out.2.2.2]
                  have h1 : y.part = 0 := by simp only [Ex.part, ← Hz.out]; simp
                  rw [h1, Nat.add_zero]
                  exact H5.out.2.2, HOj.out.trans H5.out.2.1⟩
          · obtain rfl : j = 2 := by omega
            obtain ⟨V, hV⟩ : ∃ V : World, V = wr := ⟨_, rfl⟩
            subst hV
            have hst4 := H3.out.2.2.1.oth hO (by omega) (by omega)
            have hB4 : Below w0.heap.size w0 V := HB2.out.trans ((H3.out.2.1.trans hO).below HB2.out.size fun _ e => by omega)
            have H4 := Lib.hid (And.intro hst4 (And.intro hB4 (H3.out.2.1.trans hO)))
            obtain ⟨i0, i1, i2, i3, i4, i5, i6, i7, i8, i9, i10, i11, i12, i13⟩ := hst4
            have q6 : Wr.heap.size < V.heap.size := by omega
            clear hj2 hO hC hj hB4
            simp only [Nat.zero_add] at i0 i1 i2 i3 i4 i5 i6 i7 i8 i9 i10 i11 i12 i13
            go_wp2_with fail
            refine (Hy.out.2.2.1 V c _ H4.out.2.1 hcb HCj.out).mono ?_
            rintro e W8 ⟨rfl, hC8, hO8⟩
            rw [upto_add] at hC8
            have hst8 := H4.out.1.oth hO8 q6 (by omega)
            have q8 := hO8.size
            have H8 := Lib.hid (And.intro hst8 (And.intro (H4.out.2.2.trans hO8) hC8))
            have HT : Hid (x.total = 1 + x.parts 2 + St.totals x.body + Cs.totals x.cases + St.totals x.els) := by show _ = _; rw [St.total_eq]; simp only [St.parts]; omega
            clear H4 i0 i1 i2 i3 i4 i5 i6 i7 i8 i9 i10 i11 i12 i13 hO8 hC8 HG2 HOj HCj H3 hs3 qs
            obtain ⟨i0, i1, i2, i3, i4, i5, i6, i7, i8, i9, i10, i11, i12, i13⟩ := hst8
            simp only [Nat.zero_add] at i0 i1 i2 i3 i4 i5 i6 i7 i8 i9 i10 i11 i12 i13
            have q9 : Wr.heap.size < W8.heap.size := by omega
            clear q8 q6 q5
            go_wp2_with fail
            clear i0 i1 i2 i3 i4 i5 i6 i7 i8 i9 i10 i11 i12 i13
            go_loopg [50] nc (fun g jv wx => ∃ j : Nat, g = nc - j ∧ jv = .int .i64 (j : Int) ∧ j ≤ nc ∧ CAt wx c (upto (kk + 1 + x.parts 2 + St.totals x.body + Cs.totals (x.cases.take j))) ∧ Oth (· = c) W8 wx)
            case atStart => exact ⟨0, rfl, rfl, by omega, by simpa [Cs.totals] using H8.out.2.2, Oth.refl _ _⟩
            case round =>
              obtain ⟨j, hg2, rfl, hj, hC, hO⟩ := hrel
              have HG2 := Lib.hid hg2
              have HOj := Lib.hid hO
              have HCj := Lib.hid hC
              have qs := hO.size
              have hw8 : Oth (· = c) Wr wr := H8.out.2.1.trans hO
              have HO8 := Lib.hid hw8
              have hbw : Below w0.heap.size w0 wr := HB2.out.trans (hw8.below HB2.out.size fun _ e => by omega)
              have HBw := Lib.hid hbw
              clear hg2 hw8
              by_cases hj2 : j < nc
              · obtain ⟨y, hy⟩ : ∃ y, x.cases[j]? = some y := ⟨_, List.getElem?_eq_getElem (by rw [← Hna.out.2.2]; exact hj2)⟩
                obtain ⟨bc, oc, rfl, hbc, hPc⟩ := Hy.out.2.2.2.2.1.at (i := j) hj2
                have hcs := (hPc y hy).later hbw hbc
                obtain ⟨hsb, hib⟩ := Hy.out.2.2.2.2.2 j y hy
                obtain ⟨ay, cy, hvy, -⟩ := hsb.form
                obtain ⟨ny, hny⟩ : ∃ n, n = y.body.length := ⟨_, rfl⟩
                rw [hvy, ← hny] at hcs hib
                obtain ⟨i0, i1⟩ := hcs
                obtain ⟨k9, hk9⟩ : ∃ k9, k9 = upto (kk + 1 + x.parts 2 + St.totals x.body + Cs.totals (x.cases.take j)) := ⟨_, rfl⟩
                rw [← hk9] at hC HCj
                have Hk9 := Lib.hid hk9
                have r0 := block_lt_of_cell i0
                have r1 := hC.lt
                obtain ⟨Y1, hY1⟩ : ∃ Y1, Y1 = wr.alloc (.cells #[.int .i64 y.n, .slice ay ny cy] 79) := ⟨_, rfl⟩
                have hC1 : CAt Y1 c k9 := by rw [hY1]; exact hC.later ((Below.refl _ _).alloc (Nat.le_refl _) _)
                have hO1 : Oth (· = c) wr Y1 := by rw [hY1]; exact (Oth.refl _ _).alloc _
                have hs1 : Y1.heap.size = wr.heap.size + 1 := by rw [hY1]; simp
                have hv1 : Y1.cell? ⟨wr.heap.size, 1, none⟩ = some (.slice ay ny cy) := by rw [hY1]; exact World.cell?_alloc_at _ _ _ _ rfl
                have HY1 := Lib.hid hY1
                have HD1 := Lib.hid (And.intro hC1 (And.intro hO1 (And.intro hs1 (And.intro hib hy))))
                clear hk9 hC hO hbw hPc hy hC1 hO1 hs1 hY1 hib hsb hvy hny
                go_wp2_with fail
                rw [← HY1.out]
                refine (full_any c k9 _ HD1.out.1).mono ?_
                rintro e w1 ⟨rfl, hw1⟩
                rw [← hw1]
                clear hw1
                by_cases hf9 : 4096 < k9
                · have hq : decide (4096 < k9) = true := decide_eq_true hf9
                  have Hres : Hid (upto (k + St.totals l) = k9) := by
                    show _ = _
                    have h1 := Hk9.out
                    have h2 := Hkk.out
                    have h3 := St.totals_take Hx.out
                    have h4 := St.totals_le (l := l) (i + 1)
                    have h5 := Cs.totals_le (l := x.cases) j
                    have h6 := HT.out
                    unfold upto at *
                    omega
                  rw [hq]
                  clear hf9 hq
                  go_wp2_with fail
                  refine bodyPost_ret (results_none rfl _ _ _) rfl ?_
                  exact ⟨rfl, by rw [Hres.out]; exact HD1.out.1, HO.out.trans (HO8.out.trans HD1.out.2.1)⟩
                · have hq : decide (4096 < k9) = false := decide_eq_false hf9
                  have hk3 : k9 + 1 ≤ 4097 := by omega
                  obtain ⟨Y2, hY2⟩ : ∃ Y2, Y2 = Y1.setCell ⟨c, 0, none⟩ (.int .i64 (((k9 + 1 : Nat) : Int))) := ⟨_, rfl⟩
                  have hC2 : CAt Y2 c (k9 + 1) := by rw [hY2]; exact HD1.out.1.put hk3
                  have hO2 : Oth (· = c) Y1 Y2 := by rw [hY2]; exact (Oth.refl (· = c) Y1).set (p := ⟨c, 0, none⟩) rfl _
                  have hv2 : Y2.cell? ⟨wr.heap.size, 1, none⟩ = some (.slice ay ny cy) := by rw [hO2.cell (by show wr.heap.size < _; rw [HD1.out.2.2.1]; omega) (by show ¬ wr.heap.size = c; omega)]; exact hv1
                  have H2 := Lib.hid (And.intro hC2 (HD1.out.2.1.trans hO2))
                  have hcell := HD1.out.1.cell
                  have hfree := HD1.out.1.free
                  have e1 : Hid ((k9 : Int) + 1 = ((k9 + 1 : Nat) : Int)) := by show _ = _; omega
                  have q3 := HD1.out.2.2.1
                  have HY2 := Lib.hid hY2
                  rw [hq]
                  clear hY2 hq hC2 hO2 hv1
                  go_upto_region 17 with (fail)
                  rw [e1.out, ← HY2.out]
                  clear hcell hfree i0 i1
                  go_wp2_with fail
                  refine (HD1.out.2.2.2.1 Y2 c (k9 + 1) (HBw.out.trans (H2.out.2.below HBw.out.size fun _ e => by omega)) hcb H2.out.1).mono ?_
                  rintro e w3 ⟨rfl, hC3, hO3⟩
                  have H3 := Lib.hid (And.intro hC3 (H2.out.2.trans hO3))
                  clear hC3 hO3 hv2 
                  go_wp2_with fail
                  go_roundg (nc - (j + 1))
                  case measure => have := HG2.out; omega
                  case rel => exact ⟨j + 1, rfl, by go_num, hj2, by
                      have h := H3.out.1
                      rw [Hk9.out, Nat.add_assoc, upto_add, ← Cs.total_eq, Nat.add_assoc, ← Cs.totals_take HD1.out.2.2.2.2] at h
                      exact h, HOj.out.trans H3.out.2⟩
              · obtain rfl : nc = j := by omega
                obtain ⟨i0, i1, i2, i3, i4, i5, i6, i7, i8, i9, i10, i11, i12, i13⟩ := H8.out.1.oth hO q9 (by omega)
                have hct : x.cases.take nc = x.cases := List.take_of_length_le (by rw [← Hna.out.2.2]; exact Nat.le_refl _)
                rw [hct] at HCj
                clear hj2 hO hC hbw hct
                simp only [Nat.zero_add] at i0 i1 i2 i3 i4 i5 i6 i7 i8 i9 i10 i11 i12 i13
                go_wp2_with fail
                refine (Hy.out.2.2.2.1 wr c _ HBw.out hcb HCj.out).mono ?_
                rintro e w9 ⟨rfl, hC9, hO9⟩
                rw [upto_add] at hC9
                have H9 := Lib.hid (And.intro hC9 (HO.out.trans (HO8.out.trans hO9)))
                clear hC9 hO9 i0 i1 i2 i3 i4 i5 i6 i7 i8 i9 i10 i11 i12 i13
                go_wp2_with fail
                go_roundg (n - (i + 1))
                case measure => have := Hg.out; omega
                case rel => exact ⟨i + 1, rfl, by go_num, hin, by
                    have h := H9.out.1
                    have e : upto (k + St.totals (l.take (i + 1))) = upto (kk + 1 + x.parts 2 + St.totals x.body + Cs.totals x.cases + St.totals x.els) := by
                      rw [St.totals_take Hx.out, HT.out, Hkk.out]
                      unfold upto
                      omega
                    rw [e]
                    exact h, H9.out.2⟩
    · obtain rfl : n = i := by omega
      have Hres : Hid (St.totals (l.take n) = St.totals l) := by show _ = _; rw [List.take_of_length_le (by rw [← Hn.out]; exact Nat.le_refl _)]
      have HC2 := Lib.hid hC
      clear hin hC hO
      go_wp2_with fail
      refine bodyPost_end (results_none rfl _ _ _) rfl ?_
      exact ⟨rfl, by rw [← Hres.out]; exact HC2.out, HO.out⟩
end Go.Proofs.Ytneibcpgengdnaa
