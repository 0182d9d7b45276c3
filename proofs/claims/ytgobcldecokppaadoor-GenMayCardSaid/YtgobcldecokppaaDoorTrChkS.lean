/- tree's checker: statements. -/
import Derived.Test.YtgobcldecokppaaDoorTrFormed
namespace Go.Proofs.YtgobcldecokppaaDoor
open Go.RowKit

theorem after_fst_le (r q : Nat × Int) : (after r q).1 ≤ r.1 + q.1 := by unfold after; split <;> simp
mutual
theorem St.chk_le (x : St) (level : Int) : (x.chk level).1 ≤ x.total := by
  cases x with
  | mk k s n a b body els cases =>
    simp only [St.chk, St.total]
    have h1 := St.chks_le body (level + 1)
    have h2 := Cs.chks_le cases (level + 1)
    have h3 := St.chks_le els (level + 1)
    have a1 := after_fst_le (1, St.front (.mk k s n a b body els cases) level) (after (St.chks body (level + 1)) (after (Cs.chks cases (level + 1)) (St.chks els (level + 1))))
    have a2 := after_fst_le (St.chks body (level + 1)) (after (Cs.chks cases (level + 1)) (St.chks els (level + 1)))
    have a3 := after_fst_le (Cs.chks cases (level + 1)) (St.chks els (level + 1))
    simp only at a1
    omega
theorem St.chks_le (l : List St) (level : Int) : (St.chks l level).1 ≤ St.totals l := by
  cases l with
  | nil => simp [St.chks]
  | cons x l =>
    simp only [St.chks, St.totals]
    have h1 := St.chk_le x level
    have h2 := St.chks_le l level
    have a1 := after_fst_le (St.chk x level) (St.chks l level)
    omega
theorem Cs.chk_le (x : Cs) (level : Int) : (x.chk level).1 ≤ x.total := by
  cases x with
  | mk n body =>
    simp only [Cs.chk, Cs.total]
    have h1 := St.chks_le body level
    omega
theorem Cs.chks_le (l : List Cs) (level : Int) : (Cs.chks l level).1 ≤ Cs.totals l := by
  cases l with
  | nil => simp [Cs.chks]
  | cons x l =>
    simp only [Cs.chks, Cs.totals]
    have h1 := Cs.chk_le x level
    have h2 := Cs.chks_le l level
    have a1 := after_fst_le (Cs.chk x level) (Cs.chks l level)
    omega
end
theorem after_ok {r q : Nat × Int} (h : r.2 = 0) : after r q = (r.1 + q.1, q.2) := by unfold after; rw [if_neg (by rw [h]; decide)]
theorem after_err {r q : Nat × Int} (h : r.2 ≠ 0) : after r q = r := if_pos h
/-- The first wrong one tells. -/
theorem St.chks_hit {l : List St} {i : Nat} {x : St} {level : Int} (hx : l[i]? = some x) (h0 : (St.chks (l.take i) level).2 = 0) (he : (x.chk level).2 ≠ 0) : St.chks l level = ((St.chks (l.take i) level).1 + (x.chk level).1, (x.chk level).2) := by
  have h : St.chks (l.take (i + 1)) level = ((St.chks (l.take i) level).1 + (x.chk level).1, (x.chk level).2) := by rw [St.chks_take hx, after_ok h0]
  rw [St.chks_stop (i + 1) (by rw [h]; exact he), h]
theorem St.chks_next {l : List St} {i : Nat} {x : St} {level : Int} (hx : l[i]? = some x) (h0 : (St.chks (l.take i) level).2 = 0) : St.chks (l.take (i + 1)) level = ((St.chks (l.take i) level).1 + (x.chk level).1, (x.chk level).2) := by rw [St.chks_take hx, after_ok h0]
theorem Cs.chks_hit {l : List Cs} {i : Nat} {x : Cs} {level : Int} (hx : l[i]? = some x) (h0 : (Cs.chks (l.take i) level).2 = 0) (he : (x.chk level).2 ≠ 0) : Cs.chks l level = ((Cs.chks (l.take i) level).1 + (x.chk level).1, (x.chk level).2) := by
  have h : Cs.chks (l.take (i + 1)) level = ((Cs.chks (l.take i) level).1 + (x.chk level).1, (x.chk level).2) := by rw [Cs.chks_take hx, after_ok h0]
  rw [Cs.chks_stop (i + 1) (by rw [h]; exact he), h]
theorem Cs.chks_next {l : List Cs} {i : Nat} {x : Cs} {level : Int} (hx : l[i]? = some x) (h0 : (Cs.chks (l.take i) level).2 = 0) : Cs.chks (l.take (i + 1)) level = ((Cs.chks (l.take i) level).1 + (x.chk level).1, (x.chk level).2) := by rw [Cs.chks_take hx, after_ok h0]
theorem KAt.set0 {W : World} {c : Nat} {n e : Int} (h : KAt W c n e) (n' : Int) : KAt (W.setCell ⟨c, 0, none⟩ (.int .i64 n')) c n' e :=
  ⟨World.cell?_setCell_same' _ _ _ (by rw [h.c0]; rfl), (World.cell?_setCell_other _ _ _ _ (by simp)).trans h.c1, (World.frozen?_setCell _ _ _ _).trans h.f0, (World.frozen?_setCell _ _ _ _).trans h.f1⟩
theorem FlAt.oth {S : Nat → Prop} {w w' : World} {b : Nat} {f0 f1 f2 f3 f4 f5 f6 : Bool} (h : FlAt w b f0 f1 f2 f3 f4 f5 f6) (hO : Oth S w w') (hb : b < w.heap.size) (hs : ¬ S b) : FlAt w' b f0 f1 f2 f3 f4 f5 f6 :=
  have k := fun j => hO.cell (p := ⟨b, j, none⟩) hb hs
  ⟨(k _).trans h.c0, (k _).trans h.c1, (k _).trans h.c2, (k _).trans h.c3, (k _).trans h.c4, (k _).trans h.c5, (k _).trans h.c6⟩
theorem KAt.to {W : World} {c : Nat} {n n' e : Int} (h : KAt W c n e) (q : n = n') : KAt W c n' e := q ▸ h
def ChkOk (w0 : World) (l : List St) (v : Value) : Prop := ∀ (W : World) (c : Nat) (n level : Int), Below w0.heap.size w0 W → w0.heap.size ≤ c → KAt W c n 0 → 0 ≤ n → n + (St.totals l : Int) ≤ 1000000 → 0 ≤ level → level ≤ 100 →
  Calls Tryd.prog 48 #[ptrV c, v, .int .i64 level] W (fun e W' => e = .returned (.bool (decide ((St.chks l level).2 = 0))) ∧ KAt W' c (n + ((St.chks l level).1 : Int)) (St.chks l level).2 ∧ Oth (· = c) W W')
set_option maxRecDepth 100000 in
set_option maxHeartbeats 8000000 in
theorem chks_any (l : List St) (v : Value) (w0 : World) (h : StsIn w0 l v) : ChkOk w0 l v := by
  induction h with
  | mk l v va vb vd ve vc vk h ha hb hd he hc hk ihd ihe ihk =>
  intro W c nn level hB hcb hK hn0 hn1 hl0 hl1
  obtain ⟨a, cap, rfl, hncap, hcap⟩ := h.form
  obtain ⟨n, hn⟩ : ∃ n, n = l.length := ⟨_, rfl⟩
  have Hn := Lib.hid hn
  have Hn1 := Lib.hid hn1
  have Hrow : Hid (RowOf w0 (.slice a n cap) l.length 14 (fun b o i => ∀ x, l[i]? = some x → StAt w0 b o x (va i) (vb i) (vd i) (ve i) (vc i))) := by rw [hn]; exact h
  have Hih := Lib.hid (And.intro ihd (And.intro ihe ihk))
  have Hf := Lib.hid (And.intro ha (And.intro hb (And.intro hd (And.intro he (And.intro hc hk)))))
  have HB := Lib.hid hB
  have HK := Lib.hid hK
  rw [← hn]
  rw [← hn] at hncap
  have hn62 : n ≤ 9223372036854775807 := by have : maxLen ≤ 9223372036854775807 := by decide
                                            omega
  clear h ha hb hd he hc hk ihd ihe ihk hn hB hK hn1
  go_enter Tryd.func48, Tryd.ntmps48
  go_wp2_with fail
  go_loopg [15] n (fun g iv wx => ∃ i : Nat, g = n - i ∧ iv = .int .i64 (i : Int) ∧ i ≤ n ∧ KAt wx c (nn + ((St.chks (l.take i) level).1 : Int)) 0 ∧ (St.chks (l.take i) level).2 = 0 ∧ Oth (· = c) W wx)
  case atStart => exact ⟨0, rfl, rfl, Nat.zero_le _, by simpa [St.chks] using HK.out, by simp [St.chks], Oth.refl _ _⟩
  case round =>
    obtain ⟨i, hg, rfl, hi, hK, h0, hO⟩ := hrel
    have HO := Lib.hid hO
    have H00 := Lib.hid h0
    by_cases hin : i < n
    · obtain ⟨Wr, hWr⟩ : ∃ Wr : World, Wr = wr := ⟨_, rfl⟩
      subst hWr
      obtain ⟨x, hx⟩ : ∃ x, l[i]? = some x := ⟨_, List.getElem?_eq_getElem (by rw [← Hn.out]; exact hin)⟩
      obtain ⟨b, off, rfl, hb, hP⟩ := Hrow.out.at (i := i) (by rw [← Hn.out]; exact hin)
      have hB : Below w0.heap.size w0 Wr := HB.out.trans (hO.below HB.out.size fun _ e => by omega)
      have hst := (hP x hx).later hB hb
      obtain ⟨fa, fb, fd, fe, fc, fk⟩ := Hf.out
      obtain ⟨aa, ca, hva, -⟩ := (fa i x hx).form
      obtain ⟨ab, cb, hvb, -⟩ := (fb i x hx).form
      obtain ⟨ad, cd, hvd, -⟩ := (fd i x hx).form
      obtain ⟨ae, ce, hve, -⟩ := (fe i x hx).form
      obtain ⟨ac, cc, hvc, hcc1, hcc2⟩ := (fc i x hx).form
      have fa' : ExprOk w0 x.a.args (va i) := expr_any _ _ _ (fa i x hx)
      have fb' : ExprOk w0 x.b.args (vb i) := expr_any _ _ _ (fb i x hx)
      have fd' : ChkOk w0 x.body (vd i) := Hih.out.1 i x hx
      have fe' : ChkOk w0 x.els (ve i) := Hih.out.2.1 i x hx
      have fc' := fc i x hx
      have fk' : ∀ (j : Nat) y, x.cases[j]? = some y → StsIn w0 y.body (vk i j) ∧ ChkOk w0 y.body (vk i j) := fun j y hy => ⟨fk i x j y hx hy, Hih.out.2.2 i x j y hx hy⟩
      obtain ⟨na, hna⟩ : ∃ n, n = x.a.args.length := ⟨_, rfl⟩
      obtain ⟨nb, hnb⟩ : ∃ n, n = x.b.args.length := ⟨_, rfl⟩
      obtain ⟨nd, hnd⟩ : ∃ n, n = x.body.length := ⟨_, rfl⟩
      obtain ⟨ne, hne⟩ : ∃ n, n = x.els.length := ⟨_, rfl⟩
      obtain ⟨nc, hnc⟩ : ∃ n, n = x.cases.length := ⟨_, rfl⟩
      rw [hva, hvb, hvd, hve, hvc, ← hna, ← hnb, ← hnd, ← hne, ← hnc] at hst
      rw [hva, ← hna] at fa'
      rw [hvb, ← hnb] at fb'
      rw [hvd, ← hnd] at fd'
      rw [hve, ← hne] at fe'
      rw [hvc, ← hnc] at fc'
      rw [← hnc] at hcc1
      have hnc62 : nc ≤ 9223372036854775807 := by have : maxLen ≤ 9223372036854775807 := by decide
                                                  omega
      have Hy := Lib.hid (And.intro fa' (And.intro fb' (And.intro fd' (And.intro fe' (And.intro fc' fk')))))
      have Hna := Lib.hid (And.intro hna (And.intro hnb (And.intro hnd (And.intro hne hnc))))
      have Hx := Lib.hid hx
      have Hg := Lib.hid hg
      have HB2 := Lib.hid hB
      obtain ⟨m, hm⟩ : ∃ m : Int, m = nn + ((St.chks (l.take i) level).1 : Int) := ⟨_, rfl⟩
      have hm0 : 0 ≤ m := by omega
      have Hmx : Hid (m + (x.total : Int) ≤ 1000000) := by
        show _ ≤ _
        have h1 := Hn1.out
        have h2 := St.chks_le (l.take i) level
        have h3 := St.totals_take hx
        have h4 := St.totals_le (l := l) (i + 1)
        omega
      have Hxt : Hid (x.total = 1 + x.a.part + x.b.part + St.totals x.body + Cs.totals x.cases + St.totals x.els) := x.total_eq
      have hm1 : m ≤ 999999 := by have := Hmx.out; have := Hxt.out; omega
      rw [← hm] at hK
      have Hm := Lib.hid hm
      have HK2 := Lib.hid hK
      obtain ⟨i0, i1, i2, i3, i4, i5, i6, i7, i8, i9, i10, i11, i12, i13⟩ := hst
      have q0 := block_lt_of_cell i0
      have q1 := hK.lt
      obtain ⟨W1, hW1⟩ : ∃ W1, W1 = Wr.alloc (.cells #[.int .i64 x.kind, .string x.name, .int .i64 x.n, .int .i64 x.a.kind, .int .i64 x.a.n, .string x.a.name, .slice aa na ca, .int .i64 x.b.kind, .int .i64 x.b.n, .string x.b.name, .slice ab nb cb, .slice ad nd cd, .slice ae ne ce, .slice ac nc cc] 56) := ⟨_, rfl⟩
      have hK1 : KAt W1 c m 0 := by rw [hW1]; exact hK.later ((Below.refl _ _).alloc (Nat.le_refl _) _)
      have hO1 : Oth (· = c) Wr W1 := by rw [hW1]; exact (Oth.refl _ _).alloc _
      have hs1 : W1.heap.size = Wr.heap.size + 1 := by rw [hW1]; simp
      have hv1 : StAt W1 Wr.heap.size 0 x (.slice aa na ca) (.slice ab nb cb) (.slice ad nd cd) (.slice ae ne ce) (.slice ac nc cc) := by rw [hW1]; exact StAt.box _ _ _ _ _ _ _ _
      obtain ⟨W2, hW2⟩ : ∃ W2, W2 = W1.setCell ⟨c, 0, none⟩ (.int .i64 (m + 1)) := ⟨_, rfl⟩
      have hK2 : KAt W2 c (m + 1) 0 := by rw [hW2]; exact hK1.set0 _
      have hO2 : Oth (· = c) W1 W2 := by rw [hW2]; exact (Oth.refl (· = c) W1).set (p := ⟨c, 0, none⟩) rfl _
      have hv2 := hv1.oth hO2 (by omega) (by omega)
      have H2 := Lib.hid (And.intro hK2 (And.intro (hO1.trans hO2) (And.intro hv2 hs1)))
      have HW1 := Lib.hid hW1
      have HW2 := Lib.hid hW2
      have k0 := hK1.c0
      have k2 := hK1.f0
      have q2 : Wr.heap.size < W1.heap.size := by omega
      have q3 := hO2.size
      clear hm hB hO hP hx hg hK hK1 hO1 hs1 hW1 hW2 hK2 hO2 hv2 hv1 fa fb fd fe fc fk fa' fb' fd' fe' fc' fk' hna hnb hnd hne hnc hva hvb hvd hve hvc hcc1 h0
      go_upto_region 4 with (fail)
      rw [← HW1.out]
      clear i0 i1 i2 i3 i4 i5 i6 i7 i8 i9 i10 i11 i12 i13
      go_upto_region 5 with (fail)
      rw [← HW2.out]
      clear k0 k2
      have Hexit : Hid (∀ (k : Nat) (e : Int) (W' : World), x.chk level = (k, e) → e ≠ 0 → KAt W' c (m + (k : Int)) e → Oth (· = c) W W' →
          (Ending.returned (.bool false) = .returned (.bool (decide ((St.chks l level).2 = 0))) ∧ KAt W' c (nn + ((St.chks l level).1 : Int)) (St.chks l level).2 ∧ Oth (· = c) W W')) := by
        intro k e W' hk he hKw hOw
        have h := St.chks_hit Hx.out H00.out (by rw [hk]; exact he)
        rw [hk] at h
        rw [h]
        exact ⟨by rw [decide_eq_false he], hKw.to (by have := Hm.out; omega), hOw⟩
      by_cases hl : 32 < level
      · have hk1 := H2.out.1.c1
        have hk3 := H2.out.1.f1
        have q4 : c < W2.heap.size := by omega
        have Hchk : Hid (x.chk level = (1, 20)) := by
          show _ = _
          rw [St.chk_eq, show x.front level = 20 from if_pos hl, after_err (by decide)]
        go_wp2_with fail
        go_ret
        exact Hexit.out 1 20 _ Hchk.out (by decide) (H2.out.1.set1 20) (HO.out.trans (H2.out.2.1.set (p := ⟨c, 1, none⟩) rfl _))
      · have hl' : level ≤ 32 := by omega
        have Hl := Lib.hid hl
        obtain ⟨i0, i1, i2, i3, i4, i5, i6, i7, i8, i9, i10, i11, i12, i13⟩ := H2.out.2.2.1
        have hq : (decide (32 < level)) = false := decide_eq_false hl
        clear i1 i2 i3 i4 i5 i6 i7 i8 i9 i10 i11 i12 i13
        go_wp2_with fail
        refine (counting_any x.kind W2).mono ?_
        rintro e w3 ⟨rfl, hb3⟩
        unfold cntV
        obtain ⟨f0, hf0⟩ : ∃ f, f = cntName x.kind := ⟨_, rfl⟩
        obtain ⟨f1, hf1⟩ : ∃ f, f = cntN x.kind := ⟨_, rfl⟩
        obtain ⟨f2, hf2⟩ : ∃ f, f = cntA x.kind := ⟨_, rfl⟩
        obtain ⟨f3, hf3⟩ : ∃ f, f = cntB x.kind := ⟨_, rfl⟩
        obtain ⟨f4, hf4⟩ : ∃ f, f = cntBody x.kind := ⟨_, rfl⟩
        obtain ⟨f5, hf5⟩ : ∃ f, f = cntElse x.kind := ⟨_, rfl⟩
        obtain ⟨f6, hf6⟩ : ∃ f, f = cntCases x.kind := ⟨_, rfl⟩
        obtain ⟨kn, hkn⟩ : ∃ f, f = knownS x.kind := ⟨_, rfl⟩
        rw [← hf0, ← hf1, ← hf2, ← hf3, ← hf4, ← hf5, ← hf6, ← hkn]
        obtain ⟨W4, hW4⟩ : ∃ W4, W4 = w3.alloc (.cells #[.bool f0, .bool f1, .bool f2, .bool f3, .bool f4, .bool f5, .bool f6] 128) := ⟨_, rfl⟩
        obtain ⟨D, hD⟩ : ∃ D, D = w3.heap.size := ⟨_, rfl⟩
        have hs4 : W4.heap.size = w3.heap.size + 1 := by rw [hW4]; simp
        have hb4 : Below w3.heap.size w3 W4 := by rw [hW4]; exact (Below.refl _ _).alloc (Nat.le_refl _) _
        have hfl : FlAt W4 D f0 f1 f2 f3 f4 f5 f6 := by rw [hW4, hD]; constructor <;> exact World.cell?_alloc_at _ _ _ _ rfl
        have q4 := hb3.size
        have hb24 : Below W2.heap.size W2 W4 := hb3.trans (hb4.mono q4)
        have hst4 := H2.out.2.2.1.later hb24 (by omega)
        have HF := Lib.hid (And.intro hf2 hf3)
        have HFo := Lib.hid (And.intro hf0 (And.intro hf1 (And.intro hf2 (And.intro hf3 (And.intro hf4 (And.intro hf5 (And.intro hf6 hkn)))))))
        have H4 := Lib.hid (And.intro (H2.out.1.later hb24) (And.intro (H2.out.2.1.trans (.of_below hb24)) (And.intro hst4 hfl)))
        have q5 : Wr.heap.size < D := by omega
        have q6 : D < W4.heap.size := by omega
        have HW4 := Lib.hid hW4
        have HD := Lib.hid hD
        clear hf0 hf1 hf2 hf3 hf4 hf5 hf6 hkn hW4 hD hs4 hb4 hfl hb24 hst4 hb3 q4 i0 hl hq
        go_upto_region 9 with (fail)
        rw [← HW4.out, ← HD.out]
        obtain ⟨i0, i1, i2, i3, i4, i5, i6, i7, i8, i9, i10, i11, i12, i13⟩ := H4.out.2.2.1
        obtain ⟨g0, g1, g2, g3, g4, g5, g6⟩ := H4.out.2.2.2
        simp only [Nat.zero_add] at i1 i2 i3 i4 i5 i6 i7 i8 i9 i10 i11 i12 i13
        have q7 : Wr.heap.size < W4.heap.size := by omega
        go_wp2_with fail
        clear i0 i1 i2 i3 i4 i5 i6 i7 i8 i9 i10 i11 i12 i13 g0 g1 g2 g3 g4 g5 g6
        have hB4 : Below w0.heap.size w0 W4 := HB2.out.trans (H4.out.2.1.below HB2.out.size fun _ e => by omega)
        have ho := own_any x aa ab ad ae ac na nb nd ne nc ca cb cd ce cc Hna.out.1 Hna.out.2.1 Hna.out.2.2.1 Hna.out.2.2.2.1 Hna.out.2.2.2.2 (vk i) W4
          (by rw [← Hna.out.2.2.2.2]; exact Hy.out.2.2.2.2.1.imp hB4.size fun b o k hbl _ hp y hy => (hp y hy).later hB4 hbl)
          (fun k y hy => by obtain ⟨a', cap', e, _⟩ := (Hy.out.2.2.2.2.2 k y hy).1.form; exact ⟨_, _, _, e⟩)
        unfold cntV stVal at ho
        rw [← HFo.out.1, ← HFo.out.2.1, ← HFo.out.2.2.1, ← HFo.out.2.2.2.1, ← HFo.out.2.2.2.2.1, ← HFo.out.2.2.2.2.2.1, ← HFo.out.2.2.2.2.2.2.1, ← HFo.out.2.2.2.2.2.2.2] at ho
        refine ho.mono ?_
        rintro e w5 ⟨rfl, hb5⟩
        clear ho HFo
        obtain ⟨o, ho⟩ : ∃ o, o = x.own := ⟨_, rfl⟩
        rw [← ho]
        have hK5 := H4.out.1.later hb5
        obtain ⟨W6, hW6⟩ : ∃ W6, W6 = w5.setCell ⟨c, 1, none⟩ (.int .i64 o) := ⟨_, rfl⟩
        have hK6 : KAt W6 c (m + 1) o := by rw [hW6]; exact hK5.set1 o
        have hO46 : Oth (· = c) W4 W6 := by rw [hW6]; exact (Oth.of_below (S := (· = c)) hb5).set (p := ⟨c, 1, none⟩) rfl _
        have hO6 : Oth (· = c) Wr W6 := H4.out.2.1.trans hO46
        have q8 := hO46.size
        have HS6 := Lib.hid (And.intro (H4.out.2.2.1.oth hO46 q7 (by omega)) (H4.out.2.2.2.oth hO46 q6 (by omega)))
        have HB6 : Hid (Below w0.heap.size w0 W6) := HB2.out.trans (hO6.below HB2.out.size fun _ e => by omega)
        have hk1 := hK5.c1
        have hk3 := hK5.f1
        have q9 := hK5.lt
        have HO6 := Lib.hid hO6
        have HW6 := Lib.hid hW6
        have Ho := Lib.hid ho
        have HK60 := Lib.hid hK6
        clear hW6 ho hK6 hO46 hO6 hK5 hb5 hB4
        go_upto_region 10 with (fail)
        rw [← HW6.out]
        clear hk1 hk3
        have hk1 := HK60.out.c1
        by_cases ho0 : o = 0
        · have HK6 : Hid (KAt W6 c (m + 1) 0) := by have h := HK60.out; rw [ho0] at h; exact h
          have Hown : Hid (x.own = 0) := Ho.out.symm.trans ho0
          rw [ho0] at hk1
          clear ho0 HK60 Ho HD HW4 HW1 HW2 H4 HW6 H2
          obtain ⟨ea, hea⟩ : ∃ z, z = x.a.err (level + 1) := ⟨_, rfl⟩
          obtain ⟨eb, heb⟩ : ∃ z, z = x.b.err (level + 1) := ⟨_, rfl⟩
          have HFr : Hid (x.front level = if f2 = true ∧ ea ≠ 0 then ea else if f3 = true ∧ eb ≠ 0 then eb else 0) := by
            show _ = _
            unfold St.front
            rw [if_neg (by omega), if_neg (by rw [Hown.out]; decide), ← HF.out.1, ← HF.out.2, ← hea, ← heb]
          have Heab := Lib.hid (And.intro hea heb)
          have q7 : Wr.heap.size < W6.heap.size := by omega
          have q8 : D < W6.heap.size := by omega
          clear hea heb HF
          go_upto_region 12 with (fail)
          clear hk1
          go_cut [81] (fun s wc => ∃ (k : Nat) (e : Int), s = .bool (decide (e ≠ 0)) ∧ KAt wc c (m + (k : Int)) e ∧ Oth (· = c) W6 wc ∧ (k, e) = after (1, x.front level) (St.chks x.body (level + 1)))
          case first =>
            cases f2
            · cases f3
              · obtain ⟨i0, i1, i2, i3, i4, i5, i6, i7, i8, i9, i10, i11, i12, i13⟩ := HS6.out.1
                obtain ⟨g0, g1, g2, g3, g4, g5, g6⟩ := HS6.out.2
                simp only [Nat.zero_add] at i3 i4 i5 i6 i7 i8 i9 i10 i11
                clear i0 i1 i2 i12 i13 g0 g1 g4 g5 g6
                go_wp2_with fail
                have hO7 : Oth (· = c) W6 W6 := Oth.refl _ _
                refine (Hy.out.2.2.1 _ c (m + 1) (level + 1) (HB6.out.trans (hO7.below HB6.out.size fun _ e => by omega)) hcb HK6.out (by omega) (by have := Hmx.out; have := Hxt.out; omega) (by omega) (by omega)).mono ?_
                rintro e wB ⟨rfl, hKB, hOB⟩
                obtain ⟨eB, heB⟩ : ∃ z, z = (St.chks x.body (level + 1)).2 := ⟨_, rfl⟩
                rw [← heB] at hKB
                rw [← heB]
                have HKB := Lib.hid (And.intro hKB (And.intro (hO7.trans hOB) heB))
                clear hKB hOB heB i3 i4 i5 i6 i7 i8 i9 i10 i11 g2 g3
                go_wp2_with fail
                go_meet
                case rel => exact ⟨1 + (St.chks x.body (level + 1)).1, eB, by simp, HKB.out.1.to (by omega), HKB.out.2.1, by rw [HFr.out, if_neg (by simp), if_neg (by simp), after_ok rfl, HKB.out.2.2]⟩
              · obtain ⟨i0, i1, i2, i3, i4, i5, i6, i7, i8, i9, i10, i11, i12, i13⟩ := HS6.out.1
                obtain ⟨g0, g1, g2, g3, g4, g5, g6⟩ := HS6.out.2
                simp only [Nat.zero_add] at i3 i4 i5 i6 i7 i8 i9 i10 i11
                clear i0 i1 i2 i12 i13 g0 g1 g4 g5 g6
                go_wp2_with fail
                have hO7 : Oth (· = c) W6 W6 := Oth.refl _ _
                refine (Hy.out.2.1 x.b rfl _ c (m + 1) (level + 1) (HB6.out.trans (hO7.below HB6.out.size fun _ e => by omega)) hcb HK6.out (by omega) (by omega)).mono ?_
                rintro e w8 ⟨rfl, hK8, hO8⟩
                rw [← Heab.out.2] at hK8
                rw [← Heab.out.2]
                have hO8 := hO7.trans hO8
                have HK8 := Lib.hid (And.intro hK8 hO8)
                clear i3 i4 i5 i6 i7 i8 i9 i10 i11 g2 g3
                by_cases heb : eb = 0
                · rw [heb] at hK8
                  have hq : decide (eb = 0) = true := decide_eq_true heb
                  rw [hq]
                  have Heb := Lib.hid heb
                  clear hq heb
                  obtain ⟨i0, i1, i2, i3, i4, i5, i6, i7, i8, i9, i10, i11, i12, i13⟩ := HS6.out.1.oth hO8 q7 (by omega)
                  obtain ⟨g0, g1, g2, g3, g4, g5, g6⟩ := HS6.out.2.oth hO8 q8 (by omega)
                  simp only [Nat.zero_add] at i3 i4 i5 i6 i7 i8 i9 i10 i11
                  clear i0 i1 i2 i12 i13 g0 g1 g4 g5 g6
                  clear hK8 hO8
                  go_wp2_with fail
                  have hK8 : KAt w8 c (m + 1) 0 := by have h := HK8.out.1; rw [Heb.out] at h; exact h
                  have hO8 := HK8.out.2
                  refine (Hy.out.2.2.1 _ c (m + 1) (level + 1) (HB6.out.trans (hO8.below HB6.out.size fun _ e => by omega)) hcb hK8 (by omega) (by have := Hmx.out; have := Hxt.out; omega) (by omega) (by omega)).mono ?_
                  rintro e wB ⟨rfl, hKB, hOB⟩
                  obtain ⟨eB, heB⟩ : ∃ z, z = (St.chks x.body (level + 1)).2 := ⟨_, rfl⟩
                  rw [← heB] at hKB
                  rw [← heB]
                  have HKB := Lib.hid (And.intro hKB (And.intro (hO8.trans hOB) heB))
                  clear hKB hOB heB i3 i4 i5 i6 i7 i8 i9 i10 i11 g2 g3
                  go_wp2_with fail
                  go_meet
                  case rel => exact ⟨1 + (St.chks x.body (level + 1)).1, eB, by simp, HKB.out.1.to (by omega), HKB.out.2.1, by rw [HFr.out, Heb.out, if_neg (by simp), if_neg (by simp), after_ok rfl, HKB.out.2.2]⟩
                · have hq : decide (eb = 0) = false := decide_eq_false heb
                  rw [hq]
                  have Heb := Lib.hid heb
                  clear hq heb hK8 hO8
                  go_wp2_with fail
                  go_meet
                  case rel => exact ⟨1, eb, by rw [decide_eq_true Heb.out], HK8.out.1.to (by omega), HK8.out.2, by rw [HFr.out, if_neg (by simp), if_pos (by first | exact ⟨rfl, Heb.out⟩ | exact ⟨trivial, Heb.out⟩), after_err Heb.out]⟩
            · obtain ⟨i0, i1, i2, i3, i4, i5, i6, i7, i8, i9, i10, i11, i12, i13⟩ := HS6.out.1
              obtain ⟨g0, g1, g2, g3, g4, g5, g6⟩ := HS6.out.2
              simp only [Nat.zero_add] at i3 i4 i5 i6 i7 i8 i9 i10 i11
              clear i0 i1 i2 i12 i13 g0 g1 g4 g5 g6
              go_wp2_with fail
              refine (Hy.out.1 x.a rfl _ c (m + 1) (level + 1) HB6.out hcb HK6.out (by omega) (by omega)).mono ?_
              rintro e w7 ⟨rfl, hK7, hO7⟩
              rw [← Heab.out.1] at hK7
              rw [← Heab.out.1]
              have HK7 := Lib.hid (And.intro hK7 hO7)
              clear i3 i4 i5 i6 i7 i8 i9 i10 i11 g2 g3
              by_cases hea : ea = 0
              · rw [hea] at hK7
                have hq : decide (ea = 0) = true := decide_eq_true hea
                rw [hq]
                have Hea := Lib.hid hea
                clear hq hea
                obtain ⟨i0, i1, i2, i3, i4, i5, i6, i7, i8, i9, i10, i11, i12, i13⟩ := HS6.out.1.oth hO7 q7 (by omega)
                obtain ⟨g0, g1, g2, g3, g4, g5, g6⟩ := HS6.out.2.oth hO7 q8 (by omega)
                simp only [Nat.zero_add] at i3 i4 i5 i6 i7 i8 i9 i10 i11
                clear i0 i1 i2 i12 i13 g0 g1 g4 g5 g6
                clear hK7 hO7
                cases f3
                · go_wp2_with fail
                  have hK7 : KAt w7 c (m + 1) 0 := by have h := HK7.out.1; rw [Hea.out] at h; exact h
                  have hO7 := HK7.out.2
                  refine (Hy.out.2.2.1 _ c (m + 1) (level + 1) (HB6.out.trans (hO7.below HB6.out.size fun _ e => by omega)) hcb hK7 (by omega) (by have := Hmx.out; have := Hxt.out; omega) (by omega) (by omega)).mono ?_
                  rintro e wB ⟨rfl, hKB, hOB⟩
                  obtain ⟨eB, heB⟩ : ∃ z, z = (St.chks x.body (level + 1)).2 := ⟨_, rfl⟩
                  rw [← heB] at hKB
                  rw [← heB]
                  have HKB := Lib.hid (And.intro hKB (And.intro (hO7.trans hOB) heB))
                  clear hKB hOB heB i3 i4 i5 i6 i7 i8 i9 i10 i11 g2 g3
                  go_wp2_with fail
                  go_meet
                  case rel => exact ⟨1 + (St.chks x.body (level + 1)).1, eB, by simp, HKB.out.1.to (by omega), HKB.out.2.1, by rw [HFr.out, Hea.out, if_neg (by simp), if_neg (by simp), after_ok rfl, HKB.out.2.2]⟩
                · go_wp2_with fail
                  have hK7 : KAt w7 c (m + 1) 0 := by have h := HK7.out.1; rw [Hea.out] at h; exact h
                  have hO7 := HK7.out.2
                  refine (Hy.out.2.1 x.b rfl _ c (m + 1) (level + 1) (HB6.out.trans (hO7.below HB6.out.size fun _ e => by omega)) hcb hK7 (by omega) (by omega)).mono ?_
                  rintro e w8 ⟨rfl, hK8, hO8⟩
                  rw [← Heab.out.2] at hK8
                  rw [← Heab.out.2]
                  have hO8 := hO7.trans hO8
                  have HK8 := Lib.hid (And.intro hK8 hO8)
                  clear i3 i4 i5 i6 i7 i8 i9 i10 i11 g2 g3
                  by_cases heb : eb = 0
                  · rw [heb] at hK8
                    have hq : decide (eb = 0) = true := decide_eq_true heb
                    rw [hq]
                    have Heb := Lib.hid heb
                    clear hq heb
                    obtain ⟨i0, i1, i2, i3, i4, i5, i6, i7, i8, i9, i10, i11, i12, i13⟩ := HS6.out.1.oth hO8 q7 (by omega)
                    obtain ⟨g0, g1, g2, g3, g4, g5, g6⟩ := HS6.out.2.oth hO8 q8 (by omega)
                    simp only [Nat.zero_add] at i3 i4 i5 i6 i7 i8 i9 i10 i11
                    clear i0 i1 i2 i12 i13 g0 g1 g4 g5 g6
                    clear hK8 hO8
                    go_wp2_with fail
                    have hK8 : KAt w8 c (m + 1) 0 := by have h := HK8.out.1; rw [Heb.out] at h; exact h
                    have hO8 := HK8.out.2
                    refine (Hy.out.2.2.1 _ c (m + 1) (level + 1) (HB6.out.trans (hO8.below HB6.out.size fun _ e => by omega)) hcb hK8 (by omega) (by have := Hmx.out; have := Hxt.out; omega) (by omega) (by omega)).mono ?_
                    rintro e wB ⟨rfl, hKB, hOB⟩
                    obtain ⟨eB, heB⟩ : ∃ z, z = (St.chks x.body (level + 1)).2 := ⟨_, rfl⟩
                    rw [← heB] at hKB
                    rw [← heB]
                    have HKB := Lib.hid (And.intro hKB (And.intro (hO8.trans hOB) heB))
                    clear hKB hOB heB i3 i4 i5 i6 i7 i8 i9 i10 i11 g2 g3
                    go_wp2_with fail
                    go_meet
                    case rel => exact ⟨1 + (St.chks x.body (level + 1)).1, eB, by simp, HKB.out.1.to (by omega), HKB.out.2.1, by rw [HFr.out, Heb.out, Hea.out, if_neg (by simp), if_neg (by simp), after_ok rfl, HKB.out.2.2]⟩
                  · have hq : decide (eb = 0) = false := decide_eq_false heb
                    rw [hq]
                    have Heb := Lib.hid heb
                    clear hq heb hK8 hO8
                    go_wp2_with fail
                    go_meet
                    case rel => exact ⟨1, eb, by rw [decide_eq_true Heb.out], HK8.out.1.to (by omega), HK8.out.2, by rw [HFr.out, Hea.out, if_neg (by simp), if_pos (by first | exact ⟨rfl, Heb.out⟩ | exact ⟨trivial, Heb.out⟩), after_err Heb.out]⟩
              · have hq : decide (ea = 0) = false := decide_eq_false hea
                rw [hq]
                have Hea := Lib.hid hea
                clear hq hea hK7 hO7
                go_wp2_with fail
                go_meet
                case rel => exact ⟨1, ea, by rw [decide_eq_true Hea.out], HK7.out.1.to (by omega), HK7.out.2, by rw [HFr.out, if_pos (by first | exact ⟨rfl, Hea.out⟩ | exact ⟨trivial, Hea.out⟩), after_err Hea.out]⟩
          case rest =>
            obtain ⟨k, e, rfl, hK8, hO8, hke⟩ := hcut
            have hkl : k ≤ 1 + St.totals x.body := by
              have h1 := after_fst_le (1, x.front level) (St.chks x.body (level + 1))
              rw [← hke] at h1
              have h2 := St.chks_le x.body (level + 1)
              simp only at h1
              omega
            have hst8 := HS6.out.1.oth hO8 q7 (by omega)
            have hBc : Below w0.heap.size w0 wc := HB6.out.trans (hO8.below HB6.out.size fun _ e => by omega)
            have q9 := hO8.size
            have q10 : Wr.heap.size < wc.heap.size := by omega
            have Hke := Lib.hid hke
            have Hkl := Lib.hid hkl
            have HO8 : Hid (Oth (· = c) Wr wc) := HO6.out.trans hO8
            have HK8 := Lib.hid hK8
            have HV := Lib.hid (And.intro hst8 hBc)
            have Hchk : Hid (x.chk level = after (k, e) (after (Cs.chks x.cases (level + 1)) (St.chks x.els (level + 1)))) := by show _ = _; rw [St.chk_eq, ← after_assoc, ← hke]
            clear hkl hK8 hO8 hke hBc HS6 HO6 HB6 HFr Heab Hown
            by_cases he : e = 0
            · subst he
              obtain ⟨i0, i1, i2, i3, i4, i5, i6, i7, i8, i9, i10, i11, i12, i13⟩ := hst8
              simp only [Nat.zero_add] at i13
              clear i0 i1 i2 i3 i4 i5 i6 i7 i8 i9 i10 i11 i12
              go_wp2_with fail
              clear i13
              go_loopg [85] nc (fun g jv wx => ∃ j : Nat, g = nc - j ∧ jv = .int .i64 (j : Int) ∧ j ≤ nc ∧ KAt wx c (m + (k : Int) + ((Cs.chks (x.cases.take j) (level + 1)).1 : Int)) 0 ∧ (Cs.chks (x.cases.take j) (level + 1)).2 = 0 ∧ Oth (· = c) wc wx)
              case atStart => exact ⟨0, rfl, rfl, by omega, by simpa [Cs.chks] using HK8.out, by simp [Cs.chks], Oth.refl _ _⟩
              case round =>
                obtain ⟨j, hg2, rfl, hj, hC, hC0, hO⟩ := hrel
                have HG2 := Lib.hid hg2
                have HOj := Lib.hid hO
                have HC0 := Lib.hid hC0
                have qs := hO.size
                have hw8 : Oth (· = c) Wr wr := HO8.out.trans hO
                have HO9 := Lib.hid hw8
                have hbw : Below w0.heap.size w0 wr := HB2.out.trans (hw8.below HB2.out.size fun _ e => by omega)
                have HBw := Lib.hid hbw
                obtain ⟨m2, hm2⟩ : ∃ m2 : Int, m2 = m + (k : Int) + ((Cs.chks (x.cases.take j) (level + 1)).1 : Int) := ⟨_, rfl⟩
                rw [← hm2] at hC
                have Hm2 := Lib.hid hm2
                have HC := Lib.hid hC
                have r1 := hC.lt
                clear hg2 hw8 hC0
                by_cases hj2 : j < nc
                · obtain ⟨y, hy⟩ : ∃ y, x.cases[j]? = some y := ⟨_, List.getElem?_eq_getElem (by rw [← Hna.out.2.2.2.2]; exact hj2)⟩
                  obtain ⟨bc, oc, rfl, hbc, hPc⟩ := Hy.out.2.2.2.2.1.at (i := j) hj2
                  have hcs := (hPc y hy).later hbw hbc
                  obtain ⟨hsb, hib⟩ := Hy.out.2.2.2.2.2 j y hy
                  obtain ⟨ay, cy, hvy, -⟩ := hsb.form
                  obtain ⟨ny, hny⟩ : ∃ n, n = y.body.length := ⟨_, rfl⟩
                  rw [hvy, ← hny] at hcs hib
                  obtain ⟨j0, j1⟩ := hcs
                  have r0 := block_lt_of_cell j0
                  have Hbound : Hid (0 ≤ m2 ∧ m2 + (St.totals y.body : Int) ≤ 1000000) := by
                    have h1 := Hmx.out
                    have h2 := Hxt.out
                    have h3 := Hkl.out
                    have h4 := Cs.chks_le (x.cases.take j) (level + 1)
                    have h5 := Cs.totals_take hy
                    have h6 := Cs.totals_le (l := x.cases) (j + 1)
                    have h7 := Cs.total_eq y
                    constructor <;> omega
                  obtain ⟨Y1, hY1⟩ : ∃ Y1, Y1 = wr.alloc (.cells #[.int .i64 y.n, .slice ay ny cy] 90) := ⟨_, rfl⟩
                  have hC1 : KAt Y1 c m2 0 := by rw [hY1]; exact hC.later ((Below.refl _ _).alloc (Nat.le_refl _) _)
                  have hO1 : Oth (· = c) wr Y1 := by rw [hY1]; exact (Oth.refl _ _).alloc _
                  have hv1 : Y1.cell? ⟨wr.heap.size, 1, none⟩ = some (.slice ay ny cy) := by rw [hY1]; exact World.cell?_alloc_at _ _ _ _ rfl
                  have HY1 := Lib.hid hY1
                  have HD1 := Lib.hid (And.intro hC1 (And.intro hO1 (And.intro hib hy)))
                  clear hm2 hC hO hbw hPc hy hC1 hO1 hY1 hib hsb hvy hny
                  go_upto_region 17 with (fail)
                  rw [← HY1.out]
                  clear j0 j1
                  go_wp2_with fail
                  refine (HD1.out.2.2.1 Y1 c m2 (level + 1) (HBw.out.trans (HD1.out.2.1.below HBw.out.size fun _ e => by omega)) hcb HD1.out.1 Hbound.out.1 Hbound.out.2 (by omega) (by omega)).mono ?_
                  rintro e w9 ⟨rfl, hK9, hO9⟩
                  obtain ⟨ey, hey⟩ : ∃ z, z = (St.chks y.body (level + 1)).2 := ⟨_, rfl⟩
                  rw [← hey] at hK9
                  rw [← hey]
                  have HK9 := Lib.hid (And.intro hK9 (And.intro (HD1.out.2.1.trans hO9) hey))
                  clear hK9 hO9 hey hv1
                  by_cases hz : ey = 0
                  · have hq : decide (ey = 0) = true := decide_eq_true hz
                    have Hz := Lib.hid hz
                    rw [hq]
                    clear hz hq
                    go_wp2_with fail
                    go_roundg (nc - (j + 1))
                    case measure => have := HG2.out; omega
                    case rel =>
                      have h := Cs.chks_next (level := level + 1) HD1.out.2.2.2 HC0.out
                      rw [Cs.chk_eq, ← HK9.out.2.2] at h
                      refine ⟨j + 1, rfl, by go_num, hj2, ?_, by rw [h]; exact Hz.out, HOj.out.trans HK9.out.2.1⟩
                      have h2 := HK9.out.1
                      rw [Hz.out] at h2
                      rw [h]
                      exact h2.to (by have := Hm2.out; omega)
                  · have hq : decide (ey = 0) = false := decide_eq_false hz
                    have Hz := Lib.hid hz
                    rw [hq]
                    clear hz hq
                    go_wp2_with fail
                    go_ret
                    refine Hexit.out (k + ((Cs.chks (x.cases.take j) (level + 1)).1 + (St.chks y.body (level + 1)).1)) ey _ ?_ Hz.out (HK9.out.1.to (by have := Hm2.out; omega)) (HO.out.trans (HO9.out.trans HK9.out.2.1))
                    have h := Cs.chks_hit (level := level + 1) HD1.out.2.2.2 HC0.out (by rw [Cs.chk_eq, ← HK9.out.2.2]; exact Hz.out)
                    rw [Cs.chk_eq, ← HK9.out.2.2] at h
                    rw [Hchk.out, after_ok rfl, h, after_err Hz.out]
                · obtain rfl : nc = j := by omega
                  have hst9 := HV.out.1.oth hO q10 (by omega)
                  have Hct : Hid (x.cases.take nc = x.cases) := List.take_of_length_le (by rw [← Hna.out.2.2.2.2]; exact Nat.le_refl _)
                  obtain ⟨i0, i1, i2, i3, i4, i5, i6, i7, i8, i9, i10, i11, i12, i13⟩ := hst9
                  simp only [Nat.zero_add] at i12
                  have Hbound : Hid (0 ≤ m2 ∧ m2 + (St.totals x.els : Int) ≤ 1000000) := by
                    have h1 := Hmx.out
                    have h2 := Hxt.out
                    have h3 := Hkl.out
                    have h4 := Cs.chks_le (x.cases.take nc) (level + 1)
                    have h5 := Cs.totals_le (l := x.cases) nc
                    constructor <;> omega
                  clear hj2 hO hC hbw hm2 i0 i1 i2 i3 i4 i5 i6 i7 i8 i9 i10 i11 i13
                  go_wp2_with fail
                  refine (Hy.out.2.2.2.1 wr c m2 (level + 1) HBw.out hcb HC.out Hbound.out.1 Hbound.out.2 (by omega) (by omega)).mono ?_
                  rintro e w9 ⟨rfl, hK9, hO9⟩
                  obtain ⟨ey, hey⟩ : ∃ z, z = (St.chks x.els (level + 1)).2 := ⟨_, rfl⟩
                  rw [← hey] at hK9
                  rw [← hey]
                  have HK9 := Lib.hid (And.intro hK9 (And.intro hO9 hey))
                  have Hall : Hid (x.chk level = (k + ((Cs.chks (x.cases.take nc) (level + 1)).1 + (St.chks x.els (level + 1)).1), ey)) := by
                    show _ = _
                    have h := HC0.out
                    rw [Hchk.out, after_ok rfl, hey]
                    rw [Hct.out] at h ⊢
                    rw [after_ok h]
                  clear hK9 hO9 hey i12
                  by_cases hz : ey = 0
                  · have hq : decide (ey = 0) = true := decide_eq_true hz
                    have Hz := Lib.hid hz
                    rw [hq]
                    clear hz hq
                    go_wp2_with fail
                    go_roundg (n - (i + 1))
                    case measure => have := Hg.out; omega
                    case rel =>
                      have h := St.chks_next (level := level) Hx.out H00.out
                      rw [Hall.out] at h
                      refine ⟨i + 1, rfl, by go_num, hin, ?_, by rw [h]; exact Hz.out, HO.out.trans (HO9.out.trans HK9.out.2.1)⟩
                      have h2 := HK9.out.1
                      rw [Hz.out] at h2
                      rw [h]
                      exact h2.to (by have := Hm2.out; have := Hm.out; omega)
                  · have hq : decide (ey = 0) = false := decide_eq_false hz
                    have Hz := Lib.hid hz
                    rw [hq]
                    clear hz hq
                    go_wp2_with fail
                    go_ret
                    exact Hexit.out _ ey _ Hall.out Hz.out (HK9.out.1.to (by have := Hm2.out; omega)) (HO.out.trans (HO9.out.trans HK9.out.2.1))
            · have hq : decide (e ≠ 0) = true := decide_eq_true he
              have He := Lib.hid he
              rw [hq]
              clear hq he hst8
              go_wp2_with fail
              go_ret
              exact Hexit.out k e _ (by rw [Hchk.out, after_err He.out]) He.out HK8.out (HO.out.trans HO8.out)
        · have hq : (o != 0) = true := by simp [ho0]
          have Hchk : Hid (x.chk level = (1, o)) := by
            show _ = _
            have hf : x.front level = o := by
              unfold St.front
              rw [if_neg (by omega), ← Ho.out, if_pos ho0]
            rw [St.chk_eq, hf, after_err ho0]
          have Ho0 := Lib.hid ho0
          clear ho0
          go_wp2_with fail
          go_ret
          exact Hexit.out 1 o _ Hchk.out Ho0.out HK60.out (HO.out.trans HO6.out)
    · obtain rfl : n = i := by omega
      have Hres : Hid (St.chks (l.take n) level = St.chks l level) := by show _ = _; rw [List.take_of_length_le (by rw [← Hn.out]; exact Nat.le_refl _)]
      have HK2 := Lib.hid hK
      clear hin hK hO h0
      go_wp2_with fail
      go_ret
      exact ⟨by rw [← Hres.out, H00.out]; rfl, by rw [← Hres.out, H00.out]; exact HK2.out, HO.out⟩
end Go.Proofs.YtgobcldecokppaaDoor
