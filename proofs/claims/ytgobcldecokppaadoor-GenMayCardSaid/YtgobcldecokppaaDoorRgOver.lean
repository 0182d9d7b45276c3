/- ranges: visitor.over goes over statements with two functions that it is given. -/
import Derived.Test.YtgobcldecokppaaDoorRgEvery
import Derived.Test.YtgobcldecokppaaDoorRgRng
namespace Go.Proofs.YtgobcldecokppaaDoor
open Go.RowKit Go.Maps

theorem func_ne (k : FuncId) (caps : Array Value) (w : World) : (binOp BinOp.neq 72 (.func (.func k) #[] caps) Value.nilFunc).run Tryd.prog w = .ok (.bool true) w := by kernel_rfl
theorem func_nil (w : World) : (binOp BinOp.neq 72 Value.nilFunc Value.nilFunc).run Tryd.prog w = .ok (.bool false) w := by kernel_rfl
/-- A statement's value, and how its parts read. -/
structure StVals (w0 : World) (x : St) (va vb vd ve vc : Value) (vk : Nat → Value) : Prop where
  a : ExsIn w0 x.a.args va
  b : ExsIn w0 x.b.args vb
  d : StsIn w0 x.body vd
  e : StsIn w0 x.els ve
  c : RowOf w0 vc x.cases.length 2 (fun b o k => ∀ y, x.cases[k]? = some y → CsAt w0 b o y (vk k))
  k : ∀ (k : Nat) y, x.cases[k]? = some y → StsIn w0 y.body (vk k)
/-- What is known of a statement that is visited. -/
structure FineSt (x : St) : Prop where
  fine : x.fine
  rng : x.rng
  few : x.cases.length ≤ 1000000
theorem Cs.totals_len (l : List Cs) : l.length ≤ Cs.totals l := by
  induction l with
  | nil => exact Nat.zero_le _
  | cons y l ih => have := Cs.total_eq y; simp only [List.length_cons, Cs.totals]; omega
/-- The two function values of a visitor: what they do to a state that I tells; they write to blocks of S alone. -/
structure Visits {σ : Type} (w0 : World) (I : Nat → σ → World → Prop) (S : Nat → Prop) (k : FuncId) (caps : Array Value) (flv : Value) (st : σ → St → Int → σ × Bool) (lv : σ → St → σ) : Prop where
  enter : ∀ args w, (callFunc k args).run Tryd.prog w = .ok (.enter k args) w
  stab : ∀ g g' s V V', g' ≤ g → I g s V → Below V.heap.size V V' → I g' s V'
  call : ∀ g s x va vb vd ve vc vk (n : Int) V, I (g + 1) s V → Below w0.heap.size w0 V → FineSt x → StVals w0 x va vb vd ve vc vk → 0 ≤ n → n ≤ 1000000 →
    Calls Tryd.prog k (#[stVal x va vb vd ve vc, .int .i64 n] ++ caps) V (fun e V' => e = .returned (.bool (st s x n).2) ∧ I g (st s x n).1 V' ∧ Oth S V V')
  leave : (flv = .nilFunc ∧ ∀ s x, lv s x = s) ∨ ∃ k2 caps2, flv = .func (.func k2) #[] caps2 ∧ (∀ args w, (callFunc k2 args).run Tryd.prog w = .ok (.enter k2 args) w) ∧
    ∀ g s x va vb vd ve vc vk V, I g s V → Below w0.heap.size w0 V → FineSt x → StVals w0 x va vb vd ve vc vk → Calls Tryd.prog k2 (#[stVal x va vb vd ve vc] ++ caps2) V (fun e V' => e = .returned (.tuple #[]) ∧ I g (lv s x) V' ∧ Oth S V V')
def visV (k : FuncId) (caps : Array Value) (flv : Value) : Value := .agg #[.func (.func k) #[] caps, flv]
/-- What over comes to. -/
def Ovr {σ : Type} (w0 : World) (I : Nat → σ → World → Prop) (S : Nat → Prop) (k : FuncId) (caps : Array Value) (flv : Value) (st : σ → St → Int → σ × Bool) (lv : σ → St → σ) (l : List St) (v : Value) : Prop :=
  ∀ g s (n : Int) W, I g s W → Below w0.heap.size w0 W → (∀ b, S b → b < W.heap.size) → St.fines l → St.rngs l → St.totals l ≤ g → 0 ≤ n → n + g ≤ 1000000 →
    Calls Tryd.prog 16 #[visV k caps flv, v, .int .i64 n] W (fun e W' => e = .returned (.bool (St.ovrs st lv n l s).2) ∧ I (g - St.totals l) (St.ovrs st lv n l s).1 W' ∧ Oth S W W')
/-- What stays in a round: the visitor's box, and the statement's. -/
structure OvAt (S : Nat → Prop) (W wx : World) (B D : Nat) (x : St) (va vb vd ve vc fst flv : Value) : Prop where
  oth : Oth S W wx
  st : StAt wx D 0 x va vb vd ve vc
  v0 : wx.cell? ⟨B, 0, none⟩ = some fst
  v1 : wx.cell? ⟨B, 1, none⟩ = some flv
section
variable {S : Nat → Prop} {W wx wy w0 : World} {B D : Nat} {x : St} {va vb vd ve vc fst flv : Value}
theorem OvAt.lt (h : OvAt S W wx B D x va vb vd ve vc fst flv) : D < wx.heap.size := block_lt_of_cell h.st.c0
theorem OvAt.next (h : OvAt S W wx B D x va vb vd ve vc fst flv) (hO : Oth S wx wy) (hS : ∀ b, W.heap.size ≤ b → ¬ S b) (hB : W.heap.size ≤ B) (hD : W.heap.size ≤ D) : OvAt S W wy B D x va vb vd ve vc fst flv :=
  have q := block_lt_of_cell h.v0
  ⟨h.oth.trans hO, h.st.oth hO h.lt (hS D hD), (hO.cell (p := ⟨B, 0, none⟩) q (hS B hB)).trans h.v0, (hO.cell (p := ⟨B, 1, none⟩) q (hS B hB)).trans h.v1⟩
theorem OvAt.base (h : OvAt S W wx B D x va vb vd ve vc fst flv) (hB : Below w0.heap.size w0 W) (hS : ∀ b, S b → w0.heap.size ≤ b) : Below w0.heap.size w0 wx := hB.trans (h.oth.below hB.size hS)
theorem OvAt.small (h : OvAt S W wx B D x va vb vd ve vc fst flv) (hS : ∀ b, W.heap.size ≤ b → ¬ S b) : ∀ b, S b → b < wx.heap.size := fun b hb => by
  have := h.oth.size
  rcases Nat.lt_or_ge b W.heap.size with h1 | h1
  · omega
  · exact absurd hb (hS b h1)
end
set_option maxRecDepth 100000 in
set_option maxHeartbeats 8000000 in
theorem over_any {σ : Type} (w0 : World) (I : Nat → σ → World → Prop) (S : Nat → Prop) (k : FuncId) (caps : Array Value) (flv : Value) (st : σ → St → Int → σ × Bool) (lv : σ → St → σ) (hV : Visits w0 I S k caps flv st lv) (hS : ∀ b, S b → w0.heap.size ≤ b)
    (l : List St) (v : Value) (h : StsIn w0 l v) : Ovr w0 I S k caps flv st lv l v := by
  induction h with
  | mk l v va vb vd ve vc vk h ha hb hd he hc hk ihd ihe ihk =>
  intro g s n0 W hI hB hSW hfin hrng htot hn0 hn1
  obtain ⟨a, cap, rfl, hncap, hcap⟩ := h.form
  obtain ⟨n, hn⟩ : ∃ n, n = l.length := ⟨_, rfl⟩
  have Hn := Lib.hid hn
  have Hrow : Hid (RowOf w0 (.slice a n cap) l.length 14 (fun b o i => ∀ x, l[i]? = some x → StAt w0 b o x (va i) (vb i) (vd i) (ve i) (vc i))) := by rw [hn]; exact h
  have Hvals : Hid (∀ (i : Nat) x, l[i]? = some x → StVals w0 x (va i) (vb i) (vd i) (ve i) (vc i) (vk i)) := fun i x hx => ⟨ha i x hx, hb i x hx, hd i x hx, he i x hx, hc i x hx, fun j y hy => hk i x j y hx hy⟩
  have Hih := Lib.hid (And.intro ihd (And.intro ihe ihk))
  have HV := Lib.hid hV
  have HS := Lib.hid (And.intro hS hSW)
  have HB := Lib.hid hB
  have Hfin := Lib.hid (And.intro hfin hrng)
  have Hrng := Lib.hid (And.intro htot (And.intro hn0 hn1))
  rw [← hn]
  rw [← hn] at hncap
  have hn62 : n ≤ 9223372036854775807 := by have : maxLen ≤ 9223372036854775807 := by decide
                                            omega
  obtain ⟨r, hr⟩ : ∃ r, r = St.ovrs st lv n0 l s := ⟨_, rfl⟩
  rw [← hr]
  have Hr := Lib.hid hr
  have HSW : Hid (∀ b, W.heap.size ≤ b → ¬ S b) := fun b hb hs => by have := hSW b hs; omega
  obtain ⟨W1, hW1⟩ : ∃ W1, W1 = W.alloc (.cells #[.func (.func k) #[] caps, flv] 74) := ⟨_, rfl⟩
  obtain ⟨B, hBe⟩ : ∃ B, B = W.heap.size := ⟨_, rfl⟩
  have hb1 : Below W.heap.size W W1 := by rw [hW1]; exact (Below.refl _ _).alloc (Nat.le_refl _) _
  have v0 : W1.cell? ⟨B, 0, none⟩ = some (.func (.func k) #[] caps) := by rw [hW1, hBe]; exact World.cell?_alloc_at _ _ _ _ rfl
  have v1 : W1.cell? ⟨B, 1, none⟩ = some flv := by rw [hW1, hBe]; exact World.cell?_alloc_at _ _ _ _ rfl
  have hI1 := hV.stab g g s _ _ (Nat.le_refl _) hI hb1
  have hBW : B < W1.heap.size := by rw [hW1, hBe]; simp
  have hWB : W.heap.size ≤ B := by omega
  have HW1 := Lib.hid (And.intro hW1 hBe)
  have H1 := Lib.hid (And.intro hb1 (And.intro hI1 (And.intro v0 v1)))
  clear h ha hb hd he hc hk ihd ihe ihk hn hV hS hSW hB hfin hrng htot hn0 hn1 hr hI hW1 hBe hb1 hI1
  unfold visV
  go_enter Tryd.func16, Tryd.ntmps16
  go_upto_region 1 with (fail)
  rw [← HW1.out.1, ← HW1.out.2]
  clear v0 v1
  go_wp2_with fail
  go_loopg [14] n (fun gg iv wx => ∃ (i : Nat) (si : σ), gg = n - i ∧ iv = .int .i64 (i : Int) ∧ i ≤ n ∧ St.ovrs st lv n0 (l.take i) s = (si, true) ∧ I (g - St.totals (l.take i)) si wx ∧ Oth S W wx ∧ wx.cell? ⟨B, 0, none⟩ = some (.func (.func k) #[] caps) ∧ wx.cell? ⟨B, 1, none⟩ = some flv)
  case atStart => exact ⟨0, s, rfl, rfl, Nat.zero_le _, rfl, H1.out.2.1, .of_below H1.out.1, H1.out.2.2.1, H1.out.2.2.2⟩
  case round =>
    obtain ⟨i, si, hg, rfl, hi, hp, hIi, hO, hv0, hv1⟩ := hrel
    have HK := Lib.hid (And.intro hp (And.intro hIi (And.intro hO (And.intro hv0 hv1))))
    have Hg := Lib.hid hg
    clear hp hg hIi
    by_cases hin : i < n
    · obtain ⟨Wr, hWr⟩ : ∃ Wr : World, Wr = wr := ⟨_, rfl⟩
      subst hWr
      obtain ⟨x, hx⟩ : ∃ x, l[i]? = some x := ⟨_, List.getElem?_eq_getElem (by rw [← Hn.out]; exact hin)⟩
      obtain ⟨b, off, rfl, hb, hP⟩ := Hrow.out.at (i := i) (by rw [← Hn.out]; exact hin)
      have hB0 : Below w0.heap.size w0 Wr := HB.out.trans (hO.below HB.out.size fun b hb => HS.out.1 b hb)
      have hst := (hP x hx).later hB0 hb
      have hvals := Hvals.out i x hx
      have hfx : FineSt x := ⟨St.fines_at Hfin.out.1 hx, St.rngs_at Hfin.out.2 hx, by
        have h1 := St.totals_take hx
        have h2 := St.totals_le (l := l) (i + 1)
        have h3 := St.total_eq x
        have h4 := Cs.totals_len x.cases
        have h5 := Hrng.out
        omega⟩
      obtain ⟨aa, ca, hva, -⟩ := hvals.a.form
      obtain ⟨ab, cb, hvb, -⟩ := hvals.b.form
      obtain ⟨ad, cd, hvd, -⟩ := hvals.d.form
      obtain ⟨ae, ce, hve, -⟩ := hvals.e.form
      obtain ⟨ac, cc, hvc, hcc1, hcc2⟩ := hvals.c.form
      have fd : Ovr w0 I S k caps flv st lv x.body (vd i) := Hih.out.1 i x hx
      have fe : Ovr w0 I S k caps flv st lv x.els (ve i) := Hih.out.2.1 i x hx
      have fk : ∀ (j : Nat) y, x.cases[j]? = some y → Ovr w0 I S k caps flv st lv y.body (vk i j) := fun j y hy => Hih.out.2.2 i x j y hx hy
      obtain ⟨na, hna⟩ : ∃ n, n = x.a.args.length := ⟨_, rfl⟩
      obtain ⟨nb, hnb⟩ : ∃ n, n = x.b.args.length := ⟨_, rfl⟩
      obtain ⟨nd, hnd⟩ : ∃ n, n = x.body.length := ⟨_, rfl⟩
      obtain ⟨ne, hne⟩ : ∃ n, n = x.els.length := ⟨_, rfl⟩
      obtain ⟨nc, hnc⟩ : ∃ n, n = x.cases.length := ⟨_, rfl⟩
      have hrc := hvals.c
      rw [hva, hvb, hvd, hve, hvc, ← hna, ← hnb, ← hnd, ← hne, ← hnc] at hst hvals
      rw [hvd, ← hnd] at fd
      rw [hve, ← hne] at fe
      rw [hvc, ← hnc] at hrc
      rw [← hnc] at hcc1
      have hnc62 : nc ≤ 9223372036854775807 := by have : maxLen ≤ 9223372036854775807 := by decide
                                                  omega
      have Hna := Lib.hid hnc
      obtain ⟨W2, hW2⟩ : ∃ W2, W2 = Wr.alloc (.cells #[.int .i64 x.kind, .string x.name, .int .i64 x.n, .int .i64 x.a.kind, .int .i64 x.a.n, .string x.a.name, .slice aa na ca, .int .i64 x.b.kind, .int .i64 x.b.n, .string x.b.name, .slice ab nb cb, .slice ad nd cd, .slice ae ne ce, .slice ac nc cc] 56) := ⟨_, rfl⟩
      obtain ⟨D, hD⟩ : ∃ D, D = Wr.heap.size := ⟨_, rfl⟩
      have hb2 : Below Wr.heap.size Wr W2 := by rw [hW2]; exact (Below.refl _ _).alloc (Nat.le_refl _) _
      have hs2 : StAt W2 D 0 x (.slice aa na ca) (.slice ab nb cb) (.slice ad nd cd) (.slice ae ne ce) (.slice ac nc cc) := by rw [hW2, hD]; exact StAt.box _ _ _ _ _ _ _ _
      have q1 : B < Wr.heap.size := block_lt_of_cell hv0
      have hv02 := (hb2.cell (p := ⟨B, 0, none⟩) q1).trans hv0
      have hv12 := (hb2.cell (p := ⟨B, 1, none⟩) q1).trans hv1
      have hO2 : Oth S W W2 := hO.trans (.of_below hb2)
      have hB2 : Below w0.heap.size w0 W2 := hB0.trans (hb2.mono hB0.size)
      have htx := St.totals_take hx
      have htl := St.totals_le (l := l) (i + 1)
      have hte := St.total_eq x
      obtain ⟨g1, hg1⟩ : ∃ g1, g - St.totals (l.take i) = g1 + 1 := ⟨g - St.totals (l.take i) - 1, by have := Hrng.out.1; omega⟩
      have hI2 : I (g1 + 1) si W2 := by rw [← hg1]; exact HV.out.stab _ _ _ _ _ (Nat.le_refl _) HK.out.2.1 hb2
      have Hg1 : Hid (g1 + 1 = g - St.totals (l.take i) ∧ St.totals (l.take (i + 1)) ≤ g ∧ St.totals (l.take (i + 1)) = St.totals (l.take i) + x.total) := by have := Hrng.out.1; exact ⟨hg1.symm, by omega, htx⟩
      have hDW : D < W2.heap.size := by rw [hW2, hD]; simp
      have hBD : B < D := by omega
      have hWD : W.heap.size ≤ D := by omega
      have H2 := Lib.hid (And.intro hO2 (And.intro hB2 (And.intro hs2 (And.intro hv02 hv12))))
      have HX := Lib.hid (And.intro hx (And.intro hfx (And.intro hvals hrc)))
      have Hf := Lib.hid (And.intro fd (And.intro fe fk))
      have Hcall := Lib.hid (HV.out.call g1 si x _ _ _ _ _ _ n0 W2 hI2 hB2 hfx hvals Hrng.out.2.1 (by have := Hrng.out.2; omega))
      have HW2 := Lib.hid (And.intro hW2 hD)
      clear hx hP hB0 hvals hfx hva hvb hvd hve hvc hcc1 hcc2 fd fe fk hna hnb hnd hne hnc hrc hW2 hD hb2 hO hO2 hB2 htx htl hte hg1 hI2 hv0 hv1
      obtain ⟨i0, i1, i2, i3, i4, i5, i6, i7, i8, i9, i10, i11, i12, i13⟩ := hst
      go_upto_region 4 with (fail)
      rw [← HW2.out.1, ← HW2.out.2]
      clear i0 i1 i2 i3 i4 i5 i6 i7 i8 i9 i10 i11 i12 i13
      obtain ⟨i0, i1, i2, i3, i4, i5, i6, i7, i8, i9, i10, i11, i12, i13⟩ := hs2
      simp only [Nat.zero_add] at i0 i1 i2 i3 i4 i5 i6 i7 i8 i9 i10 i11 i12 i13
      unfold stVal at Hcall
      go_wp2_with fail
      rw [HV.out.enter]
      show Calls _ _ _ _ _
      refine Hcall.out.mono ?_
      rintro e w3 ⟨rfl, hI3, hO3⟩
      obtain ⟨q, hq⟩ : ∃ q, q = st si x n0 := ⟨_, rfl⟩
      rw [← hq] at hI3
      rw [← hq]
      have Hq := Lib.hid hq
      obtain ⟨s3, z⟩ := q
      have hst3 := H2.out.2.2.1.oth hO3 hDW (HSW.out D hWD)
      have q3 := hO3.size
      have hv03 := (hO3.cell (p := ⟨B, 0, none⟩) (by show B < _; omega) (HSW.out B hWB)).trans H2.out.2.2.2.1
      have hv13 := (hO3.cell (p := ⟨B, 1, none⟩) (by show B < _; omega) (HSW.out B hWB)).trans H2.out.2.2.2.2
      have hO03 := H2.out.1.trans hO3
      have hB3 : Below w0.heap.size w0 w3 := HB.out.trans (hO03.below HB.out.size fun b hb => HS.out.1 b hb)
      have H3 := Lib.hid (And.intro hI3 (OvAt.mk (S := S) (W := W) hO03 hst3 hv03 hv13))
      have Hnext : Hid (St.ovrs st lv n0 (l.take (i + 1)) s = goOn (s3, z) fun s1 => goOn (St.ovrs st lv (if x.kind = 7 then n0 + 1 else n0) x.body s1) fun s2 => goOn (Cs.ovrs st lv n0 x.cases s2) fun s3 => goOn (St.ovrs st lv n0 x.els s3) fun s4 => (lv s4 x, true)) := by
        show _ = _
        rw [St.ovrs_next HX.out.1, HK.out.1, goOn_on rfl, St.ovr_eq, ← Hq.out]
      have q4 : D < w3.heap.size := by omega
      clear hq hI3 hO3 hst3 hv03 hv13 hO03 hB3 i0 i1 i2 i3 i4 i5 i6 i7 i8 i9 i10 i11 i12 i13 hv02 hv12 Hcall Hq q3
      cases z
      · have Hres : Hid (r = (s3, false)) := by
          show _ = _
          have h1 := Hnext.out
          rw [goOn_stop rfl] at h1
          rw [Hr.out, St.ovrs_stop (i + 1) (by rw [h1]), h1]
        go_wp2_with fail
        go_ret
        exact ⟨by rw [Hres.out]; try rfl, by rw [Hres.out]; exact HV.out.stab _ _ _ _ _ (by have := Hg1.out; have := Hrng.out.1; have := St.totals_le (l := l) (i + 1); have := St.total_eq x; omega) H3.out.1 (Below.refl _ _), H3.out.2.oth⟩
      · have hnx := Hnext.out
        rw [goOn_on rfl] at hnx
        have Hnext := Lib.hid hnx
        clear hnx
        obtain ⟨n1, hn1⟩ : ∃ n1 : Int, n1 = if x.kind = 7 then n0 + 1 else n0 := ⟨_, rfl⟩
        rw [← hn1] at Hnext
        have Hn1 : Hid (n1 = (if x.kind = 7 then n0 + 1 else n0) ∧ 0 ≤ n1 ∧ n1 ≤ n0 + 1) := by
          refine ⟨hn1, ?_⟩
          have := Hrng.out.2
          split at hn1 <;> omega
        have hr0 : 0 ≤ n0 ∧ n0 ≤ 1000000 := by have := Hrng.out.2; omega
        clear hn1
        have i0 := H3.out.2.st.c0
        go_upto_if 27 with (fail)
        clear i0
        go_cut [9] (fun v wc => v = .int .i64 n1 ∧ wc = w3)
        case first =>
          by_cases hk : x.kind = 7
          · have hq : (x.kind == 7) = true := by simp [hk]
            have Hnn : Hid (n1 = n0 + 1) := by show _ = _; rw [Hn1.out.1, if_pos hk]
            try rw [hq]
            clear hk
            go_wp2_with fail
            go_meet
            case rel => exact ⟨by rw [Hnn.out], rfl⟩
          · have hq : (x.kind == 7) = false := by simp [hk]
            have Hnn : Hid (n1 = n0) := by show _ = _; rw [Hn1.out.1, if_neg hk]
            try rw [hq]
            clear hk
            go_wp2_with fail
            go_meet
            case rel => exact ⟨by rw [Hnn.out], rfl⟩
        case rest =>
          obtain ⟨rfl, rfl⟩ := hcut
          have hbd := Hf.out.1
          have hfn := (St.fine_eq x).1 HX.out.2.1.fine
          have hrn := (St.rng_eq x).1 HX.out.2.1.rng
          have hte := St.total_eq x
          have hgg : St.totals x.body ≤ g1 ∧ n1 + g1 ≤ 1000000 ∧ Cs.totals x.cases + St.totals x.els + St.totals x.body ≤ g1 := by
            have h1 := Hg1.out
            have h2 := Hrng.out
            have h3 := Hn1.out.2
            refine ⟨by omega, by omega, by omega⟩
          have Hgg := Lib.hid hgg
          have Hfn := Lib.hid hfn
          have Hrn := Lib.hid hrn
          have Hcall := Lib.hid (Hf.out.1 g1 s3 n1 _ H3.out.1 (H3.out.2.base HB.out HS.out.1) (H3.out.2.small HSW.out) hfn.2.2.2.1 hrn.2.2.2.1 hgg.1 Hn1.out.2.1 hgg.2.1)
          have i11 := H3.out.2.st.c11
          have v0 := H3.out.2.v0
          have v1 := H3.out.2.v1
          simp only [Nat.zero_add] at i11
          unfold visV at Hcall
          clear hbd hfn hrn hte hgg
          go_wp2_with fail
          refine Hcall.out.mono ?_
          rintro e w4 ⟨rfl, hI4, hO4⟩
          obtain ⟨q, hq⟩ : ∃ q, q = St.ovrs st lv n1 x.body s3 := ⟨_, rfl⟩
          rw [← hq] at hI4
          rw [← hq]
          have hnx := Hnext.out
          rw [← hq] at hnx
          obtain ⟨s4, z4⟩ := q
          have H4 := Lib.hid (And.intro hI4 (H3.out.2.next hO4 HSW.out hWB hWD))
          have Hnext4 := Lib.hid hnx
          clear hq hI4 hO4 hnx i11 v0 v1 Hcall Hnext q4
          cases z4
          · have Hres : Hid (r = (s4, false)) := by
              show _ = _
              have h1 := Hnext4.out
              rw [goOn_stop rfl] at h1
              rw [Hr.out, St.ovrs_stop (i + 1) (by rw [h1]), h1]
            go_wp2_with fail
            go_ret
            exact ⟨by rw [Hres.out]; try rfl, by rw [Hres.out]; exact HV.out.stab _ _ _ _ _ (by have := Hg1.out; have := Hrng.out.1; have := St.totals_le (l := l) (i + 1); have := St.total_eq x; omega) H4.out.1 (Below.refl _ _), H4.out.2.oth⟩
          · have hnx := Hnext4.out
            rw [goOn_on rfl] at hnx
            have Hnext := Lib.hid hnx
            have i13 := H4.out.2.st.c13
            simp only [Nat.zero_add] at i13
            clear hnx Hnext4
            go_wp2_with fail
            clear i13
            go_loopg [39] nc (fun gg jv wx => ∃ (j : Nat) (sj : σ), gg = nc - j ∧ jv = .int .i64 (j : Int) ∧ j ≤ nc ∧ Cs.ovrs st lv n0 (x.cases.take j) s4 = (sj, true) ∧ I (g1 - St.totals x.body - Cs.totals (x.cases.take j)) sj wx ∧ OvAt S W wx B D x (.slice aa na ca) (.slice ab nb cb) (.slice ad nd cd) (.slice ae ne ce) (.slice ac nc cc) (.func (.func k) #[] caps) flv)
            case atStart => exact ⟨0, s4, rfl, rfl, Nat.zero_le _, rfl, H4.out.1, H4.out.2⟩
            case round =>
              obtain ⟨j, sj, hg2, rfl, hj, hpj, hIj, hAj⟩ := hrel
              have Hj := Lib.hid (And.intro hpj (And.intro hIj hAj))
              have Hg2 := Lib.hid hg2
              have hBj := hAj.base HB.out HS.out.1
              have HBj := Lib.hid hBj
              clear hpj hIj hg2
              by_cases hjn : j < nc
              · obtain ⟨y, hy⟩ : ∃ y, x.cases[j]? = some y := ⟨_, List.getElem?_eq_getElem (by rw [← Hna.out]; exact hjn)⟩
                obtain ⟨bc, oc, rfl, hbc, hPc⟩ := HX.out.2.2.2.at (i := j) hjn
                have hcs := (hPc y hy).later hBj hbc
                obtain ⟨ay, cy, hvy, -⟩ := (HX.out.2.2.1.k j y hy).form
                have hcl := Hf.out.2.2 j y hy
                obtain ⟨ny, hny⟩ : ∃ n, n = y.body.length := ⟨_, rfl⟩
                rw [hvy, ← hny] at hcs hcl
                have htc := Cs.totals_take hy
                have htcl := Cs.totals_le (l := x.cases) (j + 1)
                have htce := Cs.total_eq y
                have hyf : St.fines y.body := (Cs.fine_eq y).1 (Cs.fines_at Hfn.out.2.2.2.2.1 hy)
                have hyr : St.rngs y.body := ((Cs.rng_eq y).1 (Cs.rngs_at Hrn.out.2.2.2.2.2 hy)).2
                obtain ⟨W5, hW5⟩ : ∃ W5, W5 = wr.alloc (.cells #[.int .i64 y.n, .slice ay ny cy] 90) := ⟨_, rfl⟩
                obtain ⟨D5, hD5⟩ : ∃ D, D = wr.heap.size := ⟨_, rfl⟩
                have hb5 : Below wr.heap.size wr W5 := by rw [hW5]; exact (Below.refl _ _).alloc (Nat.le_refl _) _
                have hc5 : W5.cell? ⟨D5, 1, none⟩ = some (.slice ay ny cy) := by rw [hW5, hD5]; exact World.cell?_alloc_at _ _ _ _ rfl
                have hA5 := Hj.out.2.2.next (.of_below hb5) HSW.out hWB hWD
                have hI5 := HV.out.stab _ _ _ _ _ (Nat.le_refl _) Hj.out.2.1 hb5
                have hgj : St.totals y.body ≤ g1 - St.totals x.body - Cs.totals (x.cases.take j) ∧ n0 + ((g1 - St.totals x.body - Cs.totals (x.cases.take j) : Nat) : Int) ≤ 1000000 ∧ g1 - St.totals x.body - Cs.totals (x.cases.take (j + 1)) ≤ g1 - St.totals x.body - Cs.totals (x.cases.take j) - St.totals y.body := by
                  have h1 := Hgg.out
                  have h2 := Hrng.out
                  have h3 := Hn1.out.2
                  have h4 := Hg1.out
                  refine ⟨by omega, by omega, by omega⟩
                have Hcall := Lib.hid (hcl _ sj n0 W5 hI5 (hA5.base HB.out HS.out.1) (hA5.small HSW.out) hyf hyr hgj.1 Hrng.out.2.1 hgj.2.1)
                have Hgj := Lib.hid hgj.2.2
                have Hy := Lib.hid hy
                have HA5 := Lib.hid hA5
                have HW5 := Lib.hid (And.intro hW5 hD5)
                have hDD : D < D5 := by rw [hD5]; exact hAj.lt
                have hD5W : D5 < W5.heap.size := by rw [hW5, hD5]; simp
                have v0 := hAj.v0
                have v1 := hAj.v1
                have hBlt : B < wr.heap.size := block_lt_of_cell v0
                obtain ⟨j0, j1⟩ := hcs
                unfold visV at Hcall
                clear hBj hPc hvy hcl hny htc htcl htce hyf hyr hb5 hA5 hI5 hgj hW5 hD5 hAj hy
                go_upto_region 14 with (fail)
                rw [← HW5.out.1, ← HW5.out.2]
                clear j0 j1 v0 v1
                have v0 := HA5.out.v0
                have v1 := HA5.out.v1
                go_wp2_with fail
                refine Hcall.out.mono ?_
                rintro e w6 ⟨rfl, hI6, hO6⟩
                obtain ⟨q, hq⟩ : ∃ q, q = St.ovrs st lv n0 y.body sj := ⟨_, rfl⟩
                rw [← hq] at hI6
                rw [← hq]
                have hnx : Cs.ovrs st lv n0 (x.cases.take (j + 1)) s4 = q := by
                  rw [Cs.ovrs_next Hy.out, Hj.out.1, goOn_on rfl, Cs.ovr_eq, ← hq]
                obtain ⟨s6, z6⟩ := q
                have H6 := Lib.hid (And.intro hnx (And.intro hI6 (HA5.out.next hO6 HSW.out hWB hWD)))
                clear hq hnx hI6 hO6 hc5 v0 v1 Hcall
                cases z6
                · have Hres : Hid (r = (s6, false)) := by
                    show _ = _
                    have h1 := Hnext.out
                    have h2 : Cs.ovrs st lv n0 x.cases s4 = (s6, false) := by rw [Cs.ovrs_stop (j + 1) (by rw [H6.out.1]), H6.out.1]
                    rw [h2, goOn_stop rfl] at h1
                    rw [Hr.out, St.ovrs_stop (i + 1) (by rw [h1]), h1]
                  go_wp2_with fail
                  go_ret
                  rw [Hres.out]
                  refine ⟨by try rfl, HV.out.stab _ _ _ _ _ ?_ H6.out.2.1 (Below.refl _ _), H6.out.2.2.oth⟩
                  have h1 := Hg1.out
                  have h2 := Hrng.out.1
                  have h3 := St.totals_le (l := l) (i + 1)
                  have h4 := St.total_eq x
                  have h5 := Cs.totals_take Hy.out
                  have h6 := Cs.totals_le (l := x.cases) (j + 1)
                  have h7 := Cs.total_eq y
                  omega
                · go_wp2_with fail
                  go_roundg (nc - (j + 1))
                  case measure => have := Hg2.out; omega
                  case rel => exact ⟨j + 1, s6, rfl, by go_num, hjn, H6.out.1, HV.out.stab _ _ _ _ _ Hgj.out H6.out.2.1 (Below.refl _ _), H6.out.2.2⟩
              · obtain rfl : nc = j := by omega
                have hct : x.cases.take nc = x.cases := List.take_of_length_le (by rw [← Hna.out]; exact Nat.le_refl _)
                have hpj := Hj.out.1
                have hIj := Hj.out.2.1
                rw [hct] at hpj hIj
                have hnx := Hnext.out
                rw [hpj, goOn_on rfl] at hnx
                have Hnext4 := Lib.hid hnx
                have hge : St.totals x.els ≤ g1 - St.totals x.body - Cs.totals x.cases ∧ n0 + ((g1 - St.totals x.body - Cs.totals x.cases : Nat) : Int) ≤ 1000000 := by
                  have h1 := Hgg.out
                  have h2 := Hrng.out
                  have h4 := Hg1.out
                  have h5 := Hn1.out.2
                  exact ⟨by omega, by omega⟩
                have Hcall := Lib.hid (Hf.out.2.1 _ sj n0 wr hIj hBj (hAj.small HSW.out) Hfn.out.2.2.2.2.2 Hrn.out.2.2.2.2.1 hge.1 Hrng.out.2.1 hge.2)
                have i12 := hAj.st.c12
                simp only [Nat.zero_add] at i12
                have v0 := hAj.v0
                have v1 := hAj.v1
                unfold visV at Hcall
                clear hct hpj hIj hnx hge hBj hAj hjn Hnext
                go_wp2_with fail
                refine Hcall.out.mono ?_
                rintro e w6 ⟨rfl, hI6, hO6⟩
                obtain ⟨q, hq⟩ : ∃ q, q = St.ovrs st lv n0 x.els sj := ⟨_, rfl⟩
                rw [← hq] at hI6
                rw [← hq]
                have hnx := Hnext4.out
                rw [← hq] at hnx
                obtain ⟨s6, z6⟩ := q
                have hgx : g - St.totals (l.take (i + 1)) ≤ g1 - St.totals x.body - Cs.totals x.cases - St.totals x.els := by
                  have h1 := Hg1.out
                  have h2 := Hrng.out.1
                  have h4 := St.total_eq x
                  omega
                have hI6b := HV.out.stab _ _ _ _ _ hgx hI6 (Below.refl _ _)
                have H6 := Lib.hid (And.intro hI6b (Hj.out.2.2.next hO6 HSW.out hWB hWD))
                have Hnext := Lib.hid hnx
                clear hq hI6 hI6b hO6 hnx hgx i12 v0 v1 Hcall Hnext4
                cases z6
                · have Hres : Hid (r = (s6, false)) := by
                    show _ = _
                    have h1 := Hnext.out
                    rw [goOn_stop rfl] at h1
                    rw [Hr.out, St.ovrs_stop (i + 1) (by rw [h1]), h1]
                  go_wp2_with fail
                  go_ret
                  rw [Hres.out]
                  refine ⟨by try rfl, HV.out.stab _ _ _ _ _ ?_ H6.out.1 (Below.refl _ _), H6.out.2.oth⟩
                  have h3 := St.totals_le (l := l) (i + 1)
                  omega
                · have hnx := Hnext.out
                  rw [goOn_on rfl] at hnx
                  have Hnext4 := Lib.hid hnx
                  have v0 := H6.out.2.v0
                  have v1 := H6.out.2.v1
                  clear hnx Hnext
                  rcases HV.out.leave with ⟨rfl, hlv⟩ | ⟨k2, caps2, rfl, hent, hcl⟩
                  · have Hlv := Lib.hid hlv
                    clear hlv
                    have hfn := func_nil
                    go_wp2_with fail
                    go_roundg (n - (i + 1))
                    case measure => have := Hg.out; omega
                    case rel => exact ⟨i + 1, s6, rfl, by go_num, hin, by rw [Hnext4.out, Hlv.out], H6.out.1, H6.out.2.oth, H6.out.2.v0, H6.out.2.v1⟩
                  · have Hent := Lib.hid hent
                    have Hcall := Lib.hid (hcl _ s6 x _ _ _ _ _ _ _ H6.out.1 (H6.out.2.base HB.out HS.out.1) HX.out.2.1 HX.out.2.2.1)
                    obtain ⟨i0, i1, i2, i3, i4, i5, i6, i7, i8, i9, i10, i11, i12, i13⟩ := H6.out.2.st
                    simp only [Nat.zero_add] at i0 i1 i2 i3 i4 i5 i6 i7 i8 i9 i10 i11 i12 i13
                    unfold stVal at Hcall
                    clear hent hcl
                    have hfn := func_ne k2 caps2
                    go_wp2_with fail
                    rw [Hent.out]
                    show Calls _ _ _ _ _
                    refine Hcall.out.mono ?_
                    rintro e w7 ⟨rfl, hI7, hO7⟩
                    have H7 := Lib.hid (And.intro hI7 (H6.out.2.next hO7 HSW.out hWB hWD))
                    clear hI7 hO7 i0 i1 i2 i3 i4 i5 i6 i7 i8 i9 i10 i11 i12 i13 v0 v1 Hcall
                    go_wp2_with fail
                    go_roundg (n - (i + 1))
                    case measure => have := Hg.out; omega
                    case rel => exact ⟨i + 1, _, rfl, by go_num, hin, Hnext4.out, H7.out.1, H7.out.2.oth, H7.out.2.v0, H7.out.2.v1⟩
    · obtain rfl : n = i := by omega
      have Hres : Hid (r.2 = true ∧ r.1 = si ∧ St.totals (l.take n) = St.totals l) := by
        have h := HK.out.1
        have e : l.take n = l := List.take_of_length_le (by rw [← Hn.out]; exact Nat.le_refl _)
        rw [e] at h ⊢
        rw [Hr.out, h]
        exact ⟨rfl, rfl, rfl⟩
      clear hO hin hv0 hv1
      go_wp2_with fail
      go_ret
      exact ⟨by rw [Hres.out.1]; try rfl, by rw [Hres.out.2.1, ← Hres.out.2.2]; exact HK.out.2.1, HK.out.2.2.1⟩
end Go.Proofs.YtgobcldecokppaaDoor
