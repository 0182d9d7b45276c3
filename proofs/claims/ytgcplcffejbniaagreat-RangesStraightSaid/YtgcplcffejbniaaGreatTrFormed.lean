/- R2's look at a statement's own form. -/
import Derived.Test.YtgcplcffejbniaaGreatTrOwn
/- tree.own: what is wrong with a statement itself. -/
namespace Go.Proofs.YtgcplcffejbniaaGreat
open Go.RowKit

theorem St.own_eq (x : St) : x.ownF (knownS x.kind) (cntName x.kind) (cntN x.kind) (cntA x.kind) (cntB x.kind) (cntBody x.kind) (cntElse x.kind) (cntCases x.kind) = x.own := by
  have e1 : decide (0 < x.body.length) = !decide (x.body.length = 0) := by rw [← decide_not]; exact decide_eq_decide.2 (by omega)
  have e2 : decide (0 < x.els.length) = !decide (x.els.length = 0) := by rw [← decide_not]; exact decide_eq_decide.2 (by omega)
  have e3 : decide (0 < x.cases.length) = !decide (x.cases.length = 0) := by rw [← decide_not]; exact decide_eq_decide.2 (by omega)
  have e4 : decide (x.name.toList ≠ []) = !decide (x.name.toList = []) := by rw [← decide_not]
  have e5 : decide (x.n ≠ 0) = !decide (x.n = 0) := by rw [← decide_not]
  have h : (!knownS x.kind || (!cntName x.kind && decide (x.name.toList ≠ [])) || (!cntN x.kind && decide (x.n ≠ 0)) || (!cntA x.kind && !x.a.zero) || (!cntB x.kind && !x.b.zero) || (!cntBody x.kind && decide (0 < x.body.length)) || (!cntElse x.kind && decide (0 < x.els.length)) || (!cntCases x.kind && decide (0 < x.cases.length))) = !x.formed := by
    rw [e1, e2, e3, e4, e5]
    unfold St.formed
    simp only [Bool.not_and, Bool.not_or]
  unfold St.own St.ownF
  rw [h]
  cases x.formed <;> rfl
theorem own_any (x : St) (aa ab ad ae ac : Option Addr) (na nb nd ne nc ca cb cd ce cc : Nat) (hna : na = x.a.args.length) (hnb : nb = x.b.args.length) (hnd : nd = x.body.length) (hne : ne = x.els.length) (hnc : nc = x.cases.length)
    (vk : Nat → Value) (W : World)
    (hcs : RowOf W (.slice ac nc cc) x.cases.length 2 (fun b o k => ∀ y, x.cases[k]? = some y → CsAt W b o y (vk k))) (hvk : ∀ (i : Nat) y, x.cases[i]? = some y → ∃ a m cap, vk i = .slice a m cap) :
    Calls Tryz.prog 81 #[stVal x (.slice aa na ca) (.slice ab nb cb) (.slice ad nd cd) (.slice ae ne ce) (.slice ac nc cc), cntV x.kind, .bool (knownS x.kind)] W (Gives (.int .i64 x.own) W) := by
  have := own_flags x aa ab ad ae ac na nb nd ne nc ca cb cd ce cc hna hnb hnd hne hnc (knownS x.kind) (cntName x.kind) (cntN x.kind) (cntA x.kind) (cntB x.kind) (cntBody x.kind) (cntElse x.kind) (cntCases x.kind) vk W hcs hvk
  rw [St.own_eq] at this
  exact this
end Go.Proofs.YtgcplcffejbniaaGreat

namespace Go.Proofs.YtgcplcffejbniaaGreat
open Go.RowKit

def FormAt (W : World) (b c : Nat) (x : St) (va vb vd ve vc : Value) (f0 f1 f2 f3 f4 f5 f6 : Bool) (w : World) : Prop :=
  Below W.heap.size W w ∧ (W.heap.size = b ∧ b < c ∧ c < w.heap.size) ∧ StAt w b 0 x va vb vd ve vc ∧ FlAt w c f0 f1 f2 f3 f4 f5 f6
theorem formStep {W : World} {b c : Nat} {x : St} {va vb vd ve vc : Value} {f0 f1 f2 f3 f4 f5 f6 : Bool} {w w' : World} (h : Hid (FormAt W b c x va vb vd ve vc f0 f1 f2 f3 f4 f5 f6 w)) (hb : Below w.heap.size w w') : Hid (FormAt W b c x va vb vd ve vc f0 f1 f2 f3 f4 f5 f6 w') := by
  obtain ⟨h1, h2, h3, h4⟩ := h.out
  have q := hb.size
  exact Lib.hid ⟨h1.trans (hb.mono h1.size), ⟨h2.1, by omega⟩, h3.later hb (by omega), h4.later hb (by omega)⟩
theorem len_dec (n : Nat) : ((n : Int) == 0) = decide (n = 0) := by
  show decide ((n : Int) = 0) = _
  exact decide_eq_decide.2 (by omega)
theorem eq_dec (n m : Int) : (n == m) = decide (n = m) := rfl
set_option maxRecDepth 100000 in
set_option maxHeartbeats 8000000 in
theorem formed_any (x : St) (aa ab ad ae ac : Option Addr) (na nb nd ne nc ca cb cd ce cc : Nat) (hna : na = x.a.args.length) (hnb : nb = x.b.args.length) (hnd : nd = x.body.length) (hne : ne = x.els.length) (hnc : nc = x.cases.length) (W : World) :
    Calls Tryz.prog 88 #[stVal x (.slice aa na ca) (.slice ab nb cb) (.slice ad nd cd) (.slice ae ne ce) (.slice ac nc cc)] W (Gives (.bool x.formed) W) := by
  obtain ⟨W1, hW1⟩ : ∃ W1, W1 = W.alloc (.cells #[.int .i64 x.kind, .string x.name, .int .i64 x.n, .int .i64 x.a.kind, .int .i64 x.a.n, .string x.a.name, .slice aa na ca, .int .i64 x.b.kind, .int .i64 x.b.n, .string x.b.name, .slice ab nb cb, .slice ad nd cd, .slice ae ne ce, .slice ac nc cc] 43) := ⟨_, rfl⟩
  have hs1 : W1.heap.size = W.heap.size + 1 := by rw [hW1]; simp
  have hb1 : Below W.heap.size W W1 := by rw [hW1]; exact (Below.refl _ _).alloc (Nat.le_refl _) _
  have hst : StAt W1 W.heap.size 0 x (.slice aa na ca) (.slice ab nb cb) (.slice ad nd cd) (.slice ae ne ce) (.slice ac nc cc) := by rw [hW1]; exact StAt.box _ _ _ _ _ _ _ _
  obtain ⟨B, hB⟩ : ∃ B, B = W.heap.size := ⟨_, rfl⟩
  have Hl := Lib.hid (And.intro hna (And.intro hnb (And.intro hnd (And.intro hne hnc))))
  have H1 := Lib.hid (And.intro hb1 (And.intro hst hs1))
  have HW1 := Lib.hid hW1
  have HB := Lib.hid hB
  unfold stVal
  clear hna hnb hnc hnd hne hW1 hs1 hb1 hst hB
  go_enter Tryz.func88, Tryz.ntmps88
  go_upto_region 1 with (fail)
  rw [← HW1.out, ← HB.out]
  obtain ⟨i0, i1, i2, i3, i4, i5, i6, i7, i8, i9, i10, i11, i12, i13⟩ := H1.out.2.1
  rw [← HB.out] at i0
  clear i1 i2 i3 i4 i5 i6 i7 i8 i9 i10 i11 i12 i13
  go_wp2_with fail
  refine (counts_any x.kind W1).mono ?_
  rintro e w2 ⟨rfl, hb2⟩
  unfold cntV
  obtain ⟨f0, hf0⟩ : ∃ f, f = cntName x.kind := ⟨_, rfl⟩
  obtain ⟨f1, hf1⟩ : ∃ f, f = cntN x.kind := ⟨_, rfl⟩
  obtain ⟨f2, hf2⟩ : ∃ f, f = cntA x.kind := ⟨_, rfl⟩
  obtain ⟨f3, hf3⟩ : ∃ f, f = cntB x.kind := ⟨_, rfl⟩
  obtain ⟨f4, hf4⟩ : ∃ f, f = cntBody x.kind := ⟨_, rfl⟩
  obtain ⟨f5, hf5⟩ : ∃ f, f = cntElse x.kind := ⟨_, rfl⟩
  obtain ⟨f6, hf6⟩ : ∃ f, f = cntCases x.kind := ⟨_, rfl⟩
  rw [← hf0, ← hf1, ← hf2, ← hf3, ← hf4, ← hf5, ← hf6]
  obtain ⟨W3, hW3⟩ : ∃ W3, W3 = w2.alloc (.cells #[.bool f0, .bool f1, .bool f2, .bool f3, .bool f4, .bool f5, .bool f6] 134) := ⟨_, rfl⟩
  obtain ⟨C, hC⟩ : ∃ C, C = w2.heap.size := ⟨_, rfl⟩
  have hs3 : W3.heap.size = w2.heap.size + 1 := by rw [hW3]; simp
  have hb3 : Below w2.heap.size w2 W3 := by rw [hW3]; exact (Below.refl _ _).alloc (Nat.le_refl _) _
  have hfl : FlAt W3 w2.heap.size f0 f1 f2 f3 f4 f5 f6 := by rw [hW3]; constructor <;> exact World.cell?_alloc_at _ _ _ _ rfl
  have HF := Lib.hid (And.intro hf0 (And.intro hf1 (And.intro hf2 (And.intro hf3 (And.intro hf4 (And.intro hf5 hf6))))))
  have H0 : Hid (FormAt W B C x (.slice aa na ca) (.slice ab nb cb) (.slice ad nd cd) (.slice ae ne ce) (.slice ac nc cc) f0 f1 f2 f3 f4 f5 f6 W3) := by
    have q1 := H1.out.2.2
    have q2 := hb2.size
    have q3 := HB.out
    have k := H1.out.2.1.later (hb2.trans (hb3.mono q2)) (by omega)
    rw [← HB.out] at k
    exact Lib.hid ⟨H1.out.1.trans ((hb2.trans (hb3.mono q2)).mono H1.out.1.size), ⟨q3.symm, by omega, by omega⟩, k, by rw [hC]; exact hfl⟩
  have HW3 := Lib.hid hW3
  have HC := Lib.hid hC
  clear hf0 hf1 hf2 hf3 hf4 hf5 hf6 hs3 hb3 hfl hb2 hW3 hC i0 H1 HW1
  go_upto_region 2 with (fail)
  rw [← HW3.out, ← HC.out]
  refine wp_region_lit ?_
  simp only [List.append_eq, List.cons_append, List.nil_append]
  refine wpList_of ?_
  refine WP.cut 9 (fun ts w => ∀ D : List Value → World → Prop, (∀ (u4 u5 u6 u7 u8 u9 u10 u11 u12 u13 u14 : Value) (q : Bool) (w : World), q = (knownS x.kind) → FormAt W B C x (.slice aa na ca) (.slice ab nb cb) (.slice ad nd cd) (.slice ae ne ce) (.slice ac nc cc) f0 f1 f2 f3 f4 f5 f6 w → D (.agg #[.int .i64 x.kind, .string x.name, .int .i64 x.n, .int .i64 x.a.kind, .int .i64 x.a.n, .string x.a.name, .slice aa na ca, .int .i64 x.b.kind, .int .i64 x.b.n, .string x.b.name, .slice ab nb cb, .slice ad nd cd, .slice ae ne ce, .slice ac nc cc] :: .pointer (some ⟨B, 0, none⟩) :: .bool false :: .pointer (some ⟨C, 0, none⟩) :: u4 :: u5 :: u6 :: u7 :: u8 :: u9 :: u10 :: u11 :: u12 :: u13 :: u14 :: .bool q :: undef :: undef :: undef :: undef :: undef :: undef :: undef :: undef :: undef :: undef :: undef :: undef :: undef :: undef :: undef :: undef :: undef :: undef :: undef :: undef :: undef :: undef :: undef :: undef :: undef :: undef :: undef :: undef :: undef :: undef :: undef :: undef :: undef :: undef :: undef :: undef :: undef :: undef :: undef :: undef :: undef :: undef :: undef :: undef :: undef :: undef :: undef :: undef :: undef :: undef :: undef :: undef :: undef :: undef :: undef :: undef :: undef :: undef :: undef :: undef :: undef :: undef :: undef :: undef :: undef :: []) w) → D ts w) ?_ ?_
  · intro l2 hl2
    simp only [List.take_succ_cons, List.take_zero, List.cons_append, List.nil_append]
    obtain ⟨i0, i1, i2, i3, i4, i5, i6, i7, i8, i9, i10, i11, i12, i13⟩ := H0.out.2.2.1
    obtain ⟨g0, g1, g2, g3, g4, g5, g6⟩ := H0.out.2.2.2
    clear i1 i2 i3 i4 i5 i6 i7 i8 i9 i10 i11 i12 i13 g0 g1 g2 g3 g4 g5 g6
    constructor
    go_wp2_with fail
    all_goals exact hl2 _ _ fun D hD => hD _ _ _ _ _ _ _ _ _ _ _ _ _ (by go_light; simp only [knownS] at *; simp_all <;> omega) H0.out
  · intro ts v r
    refine r (fun ts w => WP _ _ _ _ ts _ w) ?_
    intro u4 u5 u6 u7 u8 u9 u10 u11 u12 u13 u14 q1 v1 hq1 h1
    clear r ts v
    have Q1 := Lib.hid hq1
    have G1 := Lib.hid h1
    clear hq1 h1
    simp only [List.drop_succ_cons, List.drop_zero]
    refine WP.cut 9 (fun ts w => ∀ D : List Value → World → Prop, (∀ (u4 u5 u6 u7 u8 u9 u10 u11 u12 u13 u14 u15 u16 u17 u18 u19 u20 u21 u22 u23 : Value) (q : Bool) (w : World), q = (q1 && (f0 || decide (x.name.toList = []))) → FormAt W B C x (.slice aa na ca) (.slice ab nb cb) (.slice ad nd cd) (.slice ae ne ce) (.slice ac nc cc) f0 f1 f2 f3 f4 f5 f6 w → D (.agg #[.int .i64 x.kind, .string x.name, .int .i64 x.n, .int .i64 x.a.kind, .int .i64 x.a.n, .string x.a.name, .slice aa na ca, .int .i64 x.b.kind, .int .i64 x.b.n, .string x.b.name, .slice ab nb cb, .slice ad nd cd, .slice ae ne ce, .slice ac nc cc] :: .pointer (some ⟨B, 0, none⟩) :: .bool false :: .pointer (some ⟨C, 0, none⟩) :: u4 :: u5 :: u6 :: u7 :: u8 :: u9 :: u10 :: u11 :: u12 :: u13 :: u14 :: u15 :: u16 :: u17 :: u18 :: u19 :: u20 :: u21 :: u22 :: u23 :: .bool q :: undef :: undef :: undef :: undef :: undef :: undef :: undef :: undef :: undef :: undef :: undef :: undef :: undef :: undef :: undef :: undef :: undef :: undef :: undef :: undef :: undef :: undef :: undef :: undef :: undef :: undef :: undef :: undef :: undef :: undef :: undef :: undef :: undef :: undef :: undef :: undef :: undef :: undef :: undef :: undef :: undef :: undef :: undef :: undef :: undef :: undef :: undef :: undef :: undef :: undef :: undef :: undef :: undef :: undef :: undef :: undef :: []) w) → D ts w) ?_ ?_
    · intro l2 hl2
      simp only [List.take_succ_cons, List.take_zero, List.cons_append, List.nil_append]
      obtain ⟨i0, i1, i2, i3, i4, i5, i6, i7, i8, i9, i10, i11, i12, i13⟩ := G1.out.2.2.1
      simp only [Nat.zero_add] at i1
      obtain ⟨g0, g1, g2, g3, g4, g5, g6⟩ := G1.out.2.2.2
      clear i0 i2 i3 i4 i5 i6 i7 i8 i9 i10 i11 i12 i13 g1 g2 g3 g4 g5 g6 Q1
      cases q1
      · iterate 3 refine WP.skip 8 15 true rfl rfl rfl rfl rfl rfl ?_
        iterate 3 refine WP.skip 11 18 false rfl rfl rfl rfl rfl rfl ?_
        refine WP.skip 8 15 true rfl rfl rfl rfl rfl rfl ?_
        constructor
        go_wp2_with fail
        exact hl2 _ _ fun D hD => hD _ _ _ _ _ _ _ _ _ _ _ _ _ _ _ _ _ _ _ _ _ _ (by rfl) G1.out
      · cases f0
        rotate_left 1
        · refine WP.cut 3 (fun ts w => ts = (.agg #[.int .i64 x.kind, .string x.name, .int .i64 x.n, .int .i64 x.a.kind, .int .i64 x.a.n, .string x.a.name, .slice aa na ca, .int .i64 x.b.kind, .int .i64 x.b.n, .string x.b.name, .slice ab nb cb, .slice ad nd cd, .slice ae ne ce, .slice ac nc cc] :: .pointer (some ⟨B, 0, none⟩) :: .bool false :: .pointer (some ⟨C, 0, none⟩) :: u4 :: u5 :: u6 :: u7 :: u8 :: u9 :: u10 :: u11 :: u12 :: u13 :: u14 :: .bool true :: .pointer (some ⟨C, 0, none⟩) :: .bool true :: .bool true :: undef :: undef :: undef :: undef :: undef :: undef :: undef :: undef :: undef :: undef :: undef :: undef :: undef :: undef :: undef :: undef :: undef :: undef :: undef :: undef :: undef :: undef :: undef :: undef :: undef :: undef :: undef :: undef :: undef :: undef :: undef :: undef :: undef :: undef :: undef :: undef :: undef :: undef :: undef :: undef :: undef :: undef :: undef :: undef :: undef :: undef :: undef :: undef :: undef :: undef :: undef :: undef :: undef :: undef :: undef :: undef :: undef :: undef :: undef :: undef :: undef :: undef :: []) ∧ w = v1) ?_ ?_
          · intro l3 hl3
            simp only [List.take_succ_cons, List.take_zero, List.cons_append, List.nil_append]
            constructor
            go_wp2_with fail
            exact hl3 _ _ ⟨rfl, rfl⟩
          · rintro _ _ ⟨rfl, rfl⟩
            simp only [List.drop_succ_cons, List.drop_zero]
            iterate 3 refine WP.skip 11 18 false rfl rfl rfl rfl rfl rfl ?_
            constructor
            go_wp2_with fail
            exact hl2 _ _ fun D hD => hD _ _ _ _ _ _ _ _ _ _ _ _ _ _ _ _ _ _ _ _ _ _ (by rfl) G1.out
        · constructor
          go_wp2_with fail
          all_goals exact hl2 _ _ fun D hD => hD _ _ _ _ _ _ _ _ _ _ _ _ _ _ _ _ _ _ _ _ _ _ (by go_light; simp [isEmpty_dec]) G1.out
    · intro ts v r
      refine r (fun ts w => WP _ _ _ _ ts _ w) ?_
      intro u4 u5 u6 u7 u8 u9 u10 u11 u12 u13 u14 u15 u16 u17 u18 u19 u20 u21 u22 u23 q2 v2 hq2 h2
      clear r ts v
      have Q2 := Lib.hid hq2
      have G2 := Lib.hid h2
      clear hq2 h2
      simp only [List.drop_succ_cons, List.drop_zero]
      refine WP.cut 9 (fun ts w => ∀ D : List Value → World → Prop, (∀ (u4 u5 u6 u7 u8 u9 u10 u11 u12 u13 u14 u15 u16 u17 u18 u19 u20 u21 u22 u23 u24 u25 u26 u27 u28 u29 u30 u31 u32 : Value) (q : Bool) (w : World), q = (q2 && (f1 || decide (x.n = 0))) → FormAt W B C x (.slice aa na ca) (.slice ab nb cb) (.slice ad nd cd) (.slice ae ne ce) (.slice ac nc cc) f0 f1 f2 f3 f4 f5 f6 w → D (.agg #[.int .i64 x.kind, .string x.name, .int .i64 x.n, .int .i64 x.a.kind, .int .i64 x.a.n, .string x.a.name, .slice aa na ca, .int .i64 x.b.kind, .int .i64 x.b.n, .string x.b.name, .slice ab nb cb, .slice ad nd cd, .slice ae ne ce, .slice ac nc cc] :: .pointer (some ⟨B, 0, none⟩) :: .bool false :: .pointer (some ⟨C, 0, none⟩) :: u4 :: u5 :: u6 :: u7 :: u8 :: u9 :: u10 :: u11 :: u12 :: u13 :: u14 :: u15 :: u16 :: u17 :: u18 :: u19 :: u20 :: u21 :: u22 :: u23 :: u24 :: u25 :: u26 :: u27 :: u28 :: u29 :: u30 :: u31 :: u32 :: .bool q :: undef :: undef :: undef :: undef :: undef :: undef :: undef :: undef :: undef :: undef :: undef :: undef :: undef :: undef :: undef :: undef :: undef :: undef :: undef :: undef :: undef :: undef :: undef :: undef :: undef :: undef :: undef :: undef :: undef :: undef :: undef :: undef :: undef :: undef :: undef :: undef :: undef :: undef :: undef :: undef :: undef :: undef :: undef :: undef :: undef :: undef :: undef :: []) w) → D ts w) ?_ ?_
      · intro l2 hl2
        simp only [List.take_succ_cons, List.take_zero, List.cons_append, List.nil_append]
        obtain ⟨i0, i1, i2, i3, i4, i5, i6, i7, i8, i9, i10, i11, i12, i13⟩ := G2.out.2.2.1
        simp only [Nat.zero_add] at i2
        obtain ⟨g0, g1, g2, g3, g4, g5, g6⟩ := G2.out.2.2.2
        clear i0 i1 i3 i4 i5 i6 i7 i8 i9 i10 i11 i12 i13 g0 g2 g3 g4 g5 g6 Q1 Q2
        cases q2
        · iterate 3 refine WP.skip 17 24 true rfl rfl rfl rfl rfl rfl ?_
          iterate 3 refine WP.skip 20 27 false rfl rfl rfl rfl rfl rfl ?_
          refine WP.skip 17 24 true rfl rfl rfl rfl rfl rfl ?_
          constructor
          go_wp2_with fail
          exact hl2 _ _ fun D hD => hD _ _ _ _ _ _ _ _ _ _ _ _ _ _ _ _ _ _ _ _ _ _ _ _ _ _ _ _ _ _ _ (by rfl) G2.out
        · cases f1
          rotate_left 1
          · refine WP.cut 3 (fun ts w => ts = (.agg #[.int .i64 x.kind, .string x.name, .int .i64 x.n, .int .i64 x.a.kind, .int .i64 x.a.n, .string x.a.name, .slice aa na ca, .int .i64 x.b.kind, .int .i64 x.b.n, .string x.b.name, .slice ab nb cb, .slice ad nd cd, .slice ae ne ce, .slice ac nc cc] :: .pointer (some ⟨B, 0, none⟩) :: .bool false :: .pointer (some ⟨C, 0, none⟩) :: u4 :: u5 :: u6 :: u7 :: u8 :: u9 :: u10 :: u11 :: u12 :: u13 :: u14 :: u15 :: u16 :: u17 :: u18 :: u19 :: u20 :: u21 :: u22 :: u23 :: .bool true :: .pointer (some ⟨C, 1, none⟩) :: .bool true :: .bool true :: undef :: undef :: undef :: undef :: undef :: undef :: undef :: undef :: undef :: undef :: undef :: undef :: undef :: undef :: undef :: undef :: undef :: undef :: undef :: undef :: undef :: undef :: undef :: undef :: undef :: undef :: undef :: undef :: undef :: undef :: undef :: undef :: undef :: undef :: undef :: undef :: undef :: undef :: undef :: undef :: undef :: undef :: undef :: undef :: undef :: undef :: undef :: undef :: undef :: undef :: undef :: undef :: undef :: []) ∧ w = v2) ?_ ?_
            · intro l3 hl3
              simp only [List.take_succ_cons, List.take_zero, List.cons_append, List.nil_append]
              constructor
              go_wp2_with fail
              exact hl3 _ _ ⟨rfl, rfl⟩
            · rintro _ _ ⟨rfl, rfl⟩
              simp only [List.drop_succ_cons, List.drop_zero]
              iterate 3 refine WP.skip 20 27 false rfl rfl rfl rfl rfl rfl ?_
              constructor
              go_wp2_with fail
              exact hl2 _ _ fun D hD => hD _ _ _ _ _ _ _ _ _ _ _ _ _ _ _ _ _ _ _ _ _ _ _ _ _ _ _ _ _ _ _ (by rfl) G2.out
          · constructor
            go_wp2_with fail
            all_goals exact hl2 _ _ fun D hD => hD _ _ _ _ _ _ _ _ _ _ _ _ _ _ _ _ _ _ _ _ _ _ _ _ _ _ _ _ _ _ _ (by go_light; simp [eq_dec]) G2.out
      · intro ts v r
        refine r (fun ts w => WP _ _ _ _ ts _ w) ?_
        intro u4 u5 u6 u7 u8 u9 u10 u11 u12 u13 u14 u15 u16 u17 u18 u19 u20 u21 u22 u23 u24 u25 u26 u27 u28 u29 u30 u31 u32 q3 v3 hq3 h3
        clear r ts v
        have Q3 := Lib.hid hq3
        have G3 := Lib.hid h3
        clear hq3 h3
        simp only [List.drop_succ_cons, List.drop_zero]
        refine WP.cut 9 (fun ts w => ∀ D : List Value → World → Prop, (∀ (u4 u5 u6 u7 u8 u9 u10 u11 u12 u13 u14 u15 u16 u17 u18 u19 u20 u21 u22 u23 u24 u25 u26 u27 u28 u29 u30 u31 u32 u33 u34 u35 u36 u37 u38 u39 u40 u41 : Value) (q : Bool) (w : World), q = (q3 && (f2 || x.a.zero)) → FormAt W B C x (.slice aa na ca) (.slice ab nb cb) (.slice ad nd cd) (.slice ae ne ce) (.slice ac nc cc) f0 f1 f2 f3 f4 f5 f6 w → D (.agg #[.int .i64 x.kind, .string x.name, .int .i64 x.n, .int .i64 x.a.kind, .int .i64 x.a.n, .string x.a.name, .slice aa na ca, .int .i64 x.b.kind, .int .i64 x.b.n, .string x.b.name, .slice ab nb cb, .slice ad nd cd, .slice ae ne ce, .slice ac nc cc] :: .pointer (some ⟨B, 0, none⟩) :: .bool false :: .pointer (some ⟨C, 0, none⟩) :: u4 :: u5 :: u6 :: u7 :: u8 :: u9 :: u10 :: u11 :: u12 :: u13 :: u14 :: u15 :: u16 :: u17 :: u18 :: u19 :: u20 :: u21 :: u22 :: u23 :: u24 :: u25 :: u26 :: u27 :: u28 :: u29 :: u30 :: u31 :: u32 :: u33 :: u34 :: u35 :: u36 :: u37 :: u38 :: u39 :: u40 :: u41 :: .bool q :: undef :: undef :: undef :: undef :: undef :: undef :: undef :: undef :: undef :: undef :: undef :: undef :: undef :: undef :: undef :: undef :: undef :: undef :: undef :: undef :: undef :: undef :: undef :: undef :: undef :: undef :: undef :: undef :: undef :: undef :: undef :: undef :: undef :: undef :: undef :: undef :: undef :: undef :: []) w) → D ts w) ?_ ?_
        · intro l2 hl2
          simp only [List.take_succ_cons, List.take_zero, List.cons_append, List.nil_append]
          obtain ⟨i0, i1, i2, i3, i4, i5, i6, i7, i8, i9, i10, i11, i12, i13⟩ := G3.out.2.2.1
          simp only [Nat.zero_add] at i3 i4 i5 i6
          obtain ⟨g0, g1, g2, g3, g4, g5, g6⟩ := G3.out.2.2.2
          clear i0 i1 i2 i7 i8 i9 i10 i11 i12 i13 g0 g1 g3 g4 g5 g6 Q1 Q2 Q3
          cases q3
          · iterate 3 refine WP.skip 26 33 true rfl rfl rfl rfl rfl rfl ?_
            iterate 3 refine WP.skip 29 36 false rfl rfl rfl rfl rfl rfl ?_
            refine WP.skip 26 33 true rfl rfl rfl rfl rfl rfl ?_
            constructor
            go_wp2_with fail
            exact hl2 _ _ fun D hD => hD _ _ _ _ _ _ _ _ _ _ _ _ _ _ _ _ _ _ _ _ _ _ _ _ _ _ _ _ _ _ _ _ _ _ _ _ _ _ _ _ (by rfl) G3.out
          · cases f2
            rotate_left 1
            · refine WP.cut 3 (fun ts w => ts = (.agg #[.int .i64 x.kind, .string x.name, .int .i64 x.n, .int .i64 x.a.kind, .int .i64 x.a.n, .string x.a.name, .slice aa na ca, .int .i64 x.b.kind, .int .i64 x.b.n, .string x.b.name, .slice ab nb cb, .slice ad nd cd, .slice ae ne ce, .slice ac nc cc] :: .pointer (some ⟨B, 0, none⟩) :: .bool false :: .pointer (some ⟨C, 0, none⟩) :: u4 :: u5 :: u6 :: u7 :: u8 :: u9 :: u10 :: u11 :: u12 :: u13 :: u14 :: u15 :: u16 :: u17 :: u18 :: u19 :: u20 :: u21 :: u22 :: u23 :: u24 :: u25 :: u26 :: u27 :: u28 :: u29 :: u30 :: u31 :: u32 :: .bool true :: .pointer (some ⟨C, 2, none⟩) :: .bool true :: .bool true :: undef :: undef :: undef :: undef :: undef :: undef :: undef :: undef :: undef :: undef :: undef :: undef :: undef :: undef :: undef :: undef :: undef :: undef :: undef :: undef :: undef :: undef :: undef :: undef :: undef :: undef :: undef :: undef :: undef :: undef :: undef :: undef :: undef :: undef :: undef :: undef :: undef :: undef :: undef :: undef :: undef :: undef :: undef :: undef :: []) ∧ w = v3) ?_ ?_
              · intro l3 hl3
                simp only [List.take_succ_cons, List.take_zero, List.cons_append, List.nil_append]
                constructor
                go_wp2_with fail
                exact hl3 _ _ ⟨rfl, rfl⟩
              · rintro _ _ ⟨rfl, rfl⟩
                simp only [List.drop_succ_cons, List.drop_zero]
                iterate 3 refine WP.skip 29 36 false rfl rfl rfl rfl rfl rfl ?_
                constructor
                go_wp2_with fail
                exact hl2 _ _ fun D hD => hD _ _ _ _ _ _ _ _ _ _ _ _ _ _ _ _ _ _ _ _ _ _ _ _ _ _ _ _ _ _ _ _ _ _ _ _ _ _ _ _ (by rfl) G3.out
            · constructor
              go_wp2_with fail
              refine (rzero_any x.a (.slice aa na ca) aa ca _ (by rw [Hl.out.1])).mono ?_
              rintro e w3 ⟨rfl, hb3⟩
              have H3 := formStep G3 hb3
              obtain ⟨z, hz⟩ : ∃ z, z = x.a.zero := ⟨_, rfl⟩
              rw [← hz]
              have Hz := Lib.hid hz
              clear hz hb3 i3 i4 i5 i6 g2
              cases z
              all_goals
                go_wp2_with fail
                exact hl2 _ _ fun D hD => hD _ _ _ _ _ _ _ _ _ _ _ _ _ _ _ _ _ _ _ _ _ _ _ _ _ _ _ _ _ _ _ _ _ _ _ _ _ _ _ _ (by have hz := Hz.out; go_light; simp_all) H3.out
        · intro ts v r
          refine r (fun ts w => WP _ _ _ _ ts _ w) ?_
          intro u4 u5 u6 u7 u8 u9 u10 u11 u12 u13 u14 u15 u16 u17 u18 u19 u20 u21 u22 u23 u24 u25 u26 u27 u28 u29 u30 u31 u32 u33 u34 u35 u36 u37 u38 u39 u40 u41 q4 v4 hq4 h4
          clear r ts v
          have Q4 := Lib.hid hq4
          have G4 := Lib.hid h4
          clear hq4 h4
          simp only [List.drop_succ_cons, List.drop_zero]
          refine WP.cut 9 (fun ts w => ∀ D : List Value → World → Prop, (∀ (u4 u5 u6 u7 u8 u9 u10 u11 u12 u13 u14 u15 u16 u17 u18 u19 u20 u21 u22 u23 u24 u25 u26 u27 u28 u29 u30 u31 u32 u33 u34 u35 u36 u37 u38 u39 u40 u41 u42 u43 u44 u45 u46 u47 u48 u49 u50 : Value) (q : Bool) (w : World), q = (q4 && (f3 || x.b.zero)) → FormAt W B C x (.slice aa na ca) (.slice ab nb cb) (.slice ad nd cd) (.slice ae ne ce) (.slice ac nc cc) f0 f1 f2 f3 f4 f5 f6 w → D (.agg #[.int .i64 x.kind, .string x.name, .int .i64 x.n, .int .i64 x.a.kind, .int .i64 x.a.n, .string x.a.name, .slice aa na ca, .int .i64 x.b.kind, .int .i64 x.b.n, .string x.b.name, .slice ab nb cb, .slice ad nd cd, .slice ae ne ce, .slice ac nc cc] :: .pointer (some ⟨B, 0, none⟩) :: .bool false :: .pointer (some ⟨C, 0, none⟩) :: u4 :: u5 :: u6 :: u7 :: u8 :: u9 :: u10 :: u11 :: u12 :: u13 :: u14 :: u15 :: u16 :: u17 :: u18 :: u19 :: u20 :: u21 :: u22 :: u23 :: u24 :: u25 :: u26 :: u27 :: u28 :: u29 :: u30 :: u31 :: u32 :: u33 :: u34 :: u35 :: u36 :: u37 :: u38 :: u39 :: u40 :: u41 :: u42 :: u43 :: u44 :: u45 :: u46 :: u47 :: u48 :: u49 :: u50 :: .bool q :: undef :: undef :: undef :: undef :: undef :: undef :: undef :: undef :: undef :: undef :: undef :: undef :: undef :: undef :: undef :: undef :: undef :: undef :: undef :: undef :: undef :: undef :: undef :: undef :: undef :: undef :: undef :: undef :: undef :: []) w) → D ts w) ?_ ?_
          · intro l2 hl2
            simp only [List.take_succ_cons, List.take_zero, List.cons_append, List.nil_append]
            obtain ⟨i0, i1, i2, i3, i4, i5, i6, i7, i8, i9, i10, i11, i12, i13⟩ := G4.out.2.2.1
            simp only [Nat.zero_add] at i7 i8 i9 i10
            obtain ⟨g0, g1, g2, g3, g4, g5, g6⟩ := G4.out.2.2.2
            clear i0 i1 i2 i3 i4 i5 i6 i11 i12 i13 g0 g1 g2 g4 g5 g6 Q1 Q2 Q3 Q4
            cases q4
            · iterate 3 refine WP.skip 35 42 true rfl rfl rfl rfl rfl rfl ?_
              iterate 3 refine WP.skip 38 45 false rfl rfl rfl rfl rfl rfl ?_
              refine WP.skip 35 42 true rfl rfl rfl rfl rfl rfl ?_
              constructor
              go_wp2_with fail
              exact hl2 _ _ fun D hD => hD _ _ _ _ _ _ _ _ _ _ _ _ _ _ _ _ _ _ _ _ _ _ _ _ _ _ _ _ _ _ _ _ _ _ _ _ _ _ _ _ _ _ _ _ _ _ _ _ _ (by rfl) G4.out
            · cases f3
              rotate_left 1
              · refine WP.cut 3 (fun ts w => ts = (.agg #[.int .i64 x.kind, .string x.name, .int .i64 x.n, .int .i64 x.a.kind, .int .i64 x.a.n, .string x.a.name, .slice aa na ca, .int .i64 x.b.kind, .int .i64 x.b.n, .string x.b.name, .slice ab nb cb, .slice ad nd cd, .slice ae ne ce, .slice ac nc cc] :: .pointer (some ⟨B, 0, none⟩) :: .bool false :: .pointer (some ⟨C, 0, none⟩) :: u4 :: u5 :: u6 :: u7 :: u8 :: u9 :: u10 :: u11 :: u12 :: u13 :: u14 :: u15 :: u16 :: u17 :: u18 :: u19 :: u20 :: u21 :: u22 :: u23 :: u24 :: u25 :: u26 :: u27 :: u28 :: u29 :: u30 :: u31 :: u32 :: u33 :: u34 :: u35 :: u36 :: u37 :: u38 :: u39 :: u40 :: u41 :: .bool true :: .pointer (some ⟨C, 3, none⟩) :: .bool true :: .bool true :: undef :: undef :: undef :: undef :: undef :: undef :: undef :: undef :: undef :: undef :: undef :: undef :: undef :: undef :: undef :: undef :: undef :: undef :: undef :: undef :: undef :: undef :: undef :: undef :: undef :: undef :: undef :: undef :: undef :: undef :: undef :: undef :: undef :: undef :: undef :: []) ∧ w = v4) ?_ ?_
                · intro l3 hl3
                  simp only [List.take_succ_cons, List.take_zero, List.cons_append, List.nil_append]
                  constructor
                  go_wp2_with fail
                  exact hl3 _ _ ⟨rfl, rfl⟩
                · rintro _ _ ⟨rfl, rfl⟩
                  simp only [List.drop_succ_cons, List.drop_zero]
                  iterate 3 refine WP.skip 38 45 false rfl rfl rfl rfl rfl rfl ?_
                  constructor
                  go_wp2_with fail
                  exact hl2 _ _ fun D hD => hD _ _ _ _ _ _ _ _ _ _ _ _ _ _ _ _ _ _ _ _ _ _ _ _ _ _ _ _ _ _ _ _ _ _ _ _ _ _ _ _ _ _ _ _ _ _ _ _ _ (by rfl) G4.out
              · constructor
                go_wp2_with fail
                refine (rzero_any x.b (.slice ab nb cb) ab cb _ (by rw [Hl.out.2.1])).mono ?_
                rintro e w3 ⟨rfl, hb3⟩
                have H3 := formStep G4 hb3
                obtain ⟨z, hz⟩ : ∃ z, z = x.b.zero := ⟨_, rfl⟩
                rw [← hz]
                have Hz := Lib.hid hz
                clear hz hb3 i7 i8 i9 i10 g3
                cases z
                all_goals
                  go_wp2_with fail
                  exact hl2 _ _ fun D hD => hD _ _ _ _ _ _ _ _ _ _ _ _ _ _ _ _ _ _ _ _ _ _ _ _ _ _ _ _ _ _ _ _ _ _ _ _ _ _ _ _ _ _ _ _ _ _ _ _ _ (by have hz := Hz.out; go_light; simp_all) H3.out
          · intro ts v r
            refine r (fun ts w => WP _ _ _ _ ts _ w) ?_
            intro u4 u5 u6 u7 u8 u9 u10 u11 u12 u13 u14 u15 u16 u17 u18 u19 u20 u21 u22 u23 u24 u25 u26 u27 u28 u29 u30 u31 u32 u33 u34 u35 u36 u37 u38 u39 u40 u41 u42 u43 u44 u45 u46 u47 u48 u49 u50 q5 v5 hq5 h5
            clear r ts v
            have Q5 := Lib.hid hq5
            have G5 := Lib.hid h5
            clear hq5 h5
            simp only [List.drop_succ_cons, List.drop_zero]
            refine WP.cut 10 (fun ts w => ∀ D : List Value → World → Prop, (∀ (u4 u5 u6 u7 u8 u9 u10 u11 u12 u13 u14 u15 u16 u17 u18 u19 u20 u21 u22 u23 u24 u25 u26 u27 u28 u29 u30 u31 u32 u33 u34 u35 u36 u37 u38 u39 u40 u41 u42 u43 u44 u45 u46 u47 u48 u49 u50 u51 u52 u53 u54 u55 u56 u57 u58 u59 u60 : Value) (q : Bool) (w : World), q = (q5 && (f4 || decide (nd = 0))) → FormAt W B C x (.slice aa na ca) (.slice ab nb cb) (.slice ad nd cd) (.slice ae ne ce) (.slice ac nc cc) f0 f1 f2 f3 f4 f5 f6 w → D (.agg #[.int .i64 x.kind, .string x.name, .int .i64 x.n, .int .i64 x.a.kind, .int .i64 x.a.n, .string x.a.name, .slice aa na ca, .int .i64 x.b.kind, .int .i64 x.b.n, .string x.b.name, .slice ab nb cb, .slice ad nd cd, .slice ae ne ce, .slice ac nc cc] :: .pointer (some ⟨B, 0, none⟩) :: .bool false :: .pointer (some ⟨C, 0, none⟩) :: u4 :: u5 :: u6 :: u7 :: u8 :: u9 :: u10 :: u11 :: u12 :: u13 :: u14 :: u15 :: u16 :: u17 :: u18 :: u19 :: u20 :: u21 :: u22 :: u23 :: u24 :: u25 :: u26 :: u27 :: u28 :: u29 :: u30 :: u31 :: u32 :: u33 :: u34 :: u35 :: u36 :: u37 :: u38 :: u39 :: u40 :: u41 :: u42 :: u43 :: u44 :: u45 :: u46 :: u47 :: u48 :: u49 :: u50 :: u51 :: u52 :: u53 :: u54 :: u55 :: u56 :: u57 :: u58 :: u59 :: u60 :: .bool q :: undef :: undef :: undef :: undef :: undef :: undef :: undef :: undef :: undef :: undef :: undef :: undef :: undef :: undef :: undef :: undef :: undef :: undef :: undef :: []) w) → D ts w) ?_ ?_
            · intro l2 hl2
              simp only [List.take_succ_cons, List.take_zero, List.cons_append, List.nil_append]
              obtain ⟨i0, i1, i2, i3, i4, i5, i6, i7, i8, i9, i10, i11, i12, i13⟩ := G5.out.2.2.1
              simp only [Nat.zero_add] at i11
              obtain ⟨g0, g1, g2, g3, g4, g5, g6⟩ := G5.out.2.2.2
              clear i0 i1 i2 i3 i4 i5 i6 i7 i8 i9 i10 i12 i13 g0 g1 g2 g3 g5 g6 Q1 Q2 Q3 Q4 Q5
              cases q5
              · iterate 3 refine WP.skip 44 51 true rfl rfl rfl rfl rfl rfl ?_
                iterate 4 refine WP.skip 47 54 false rfl rfl rfl rfl rfl rfl ?_
                refine WP.skip 44 51 true rfl rfl rfl rfl rfl rfl ?_
                constructor
                go_wp2_with fail
                exact hl2 _ _ fun D hD => hD _ _ _ _ _ _ _ _ _ _ _ _ _ _ _ _ _ _ _ _ _ _ _ _ _ _ _ _ _ _ _ _ _ _ _ _ _ _ _ _ _ _ _ _ _ _ _ _ _ _ _ _ _ _ _ _ _ _ _ (by rfl) G5.out
              · cases f4
                rotate_left 1
                · refine WP.cut 3 (fun ts w => ts = (.agg #[.int .i64 x.kind, .string x.name, .int .i64 x.n, .int .i64 x.a.kind, .int .i64 x.a.n, .string x.a.name, .slice aa na ca, .int .i64 x.b.kind, .int .i64 x.b.n, .string x.b.name, .slice ab nb cb, .slice ad nd cd, .slice ae ne ce, .slice ac nc cc] :: .pointer (some ⟨B, 0, none⟩) :: .bool false :: .pointer (some ⟨C, 0, none⟩) :: u4 :: u5 :: u6 :: u7 :: u8 :: u9 :: u10 :: u11 :: u12 :: u13 :: u14 :: u15 :: u16 :: u17 :: u18 :: u19 :: u20 :: u21 :: u22 :: u23 :: u24 :: u25 :: u26 :: u27 :: u28 :: u29 :: u30 :: u31 :: u32 :: u33 :: u34 :: u35 :: u36 :: u37 :: u38 :: u39 :: u40 :: u41 :: u42 :: u43 :: u44 :: u45 :: u46 :: u47 :: u48 :: u49 :: u50 :: .bool true :: .pointer (some ⟨C, 4, none⟩) :: .bool true :: .bool true :: undef :: undef :: undef :: undef :: undef :: undef :: undef :: undef :: undef :: undef :: undef :: undef :: undef :: undef :: undef :: undef :: undef :: undef :: undef :: undef :: undef :: undef :: undef :: undef :: undef :: undef :: []) ∧ w = v5) ?_ ?_
                  · intro l3 hl3
                    simp only [List.take_succ_cons, List.take_zero, List.cons_append, List.nil_append]
                    constructor
                    go_wp2_with fail
                    exact hl3 _ _ ⟨rfl, rfl⟩
                  · rintro _ _ ⟨rfl, rfl⟩
                    simp only [List.drop_succ_cons, List.drop_zero]
                    iterate 4 refine WP.skip 47 54 false rfl rfl rfl rfl rfl rfl ?_
                    constructor
                    go_wp2_with fail
                    exact hl2 _ _ fun D hD => hD _ _ _ _ _ _ _ _ _ _ _ _ _ _ _ _ _ _ _ _ _ _ _ _ _ _ _ _ _ _ _ _ _ _ _ _ _ _ _ _ _ _ _ _ _ _ _ _ _ _ _ _ _ _ _ _ _ _ _ (by rfl) G5.out
                · constructor
                  go_wp2_with fail
                  all_goals exact hl2 _ _ fun D hD => hD _ _ _ _ _ _ _ _ _ _ _ _ _ _ _ _ _ _ _ _ _ _ _ _ _ _ _ _ _ _ _ _ _ _ _ _ _ _ _ _ _ _ _ _ _ _ _ _ _ _ _ _ _ _ _ _ _ _ _ (by show _ = _; go_light; clear hD; first | rfl | (simp [len_dec]; done) | (simp_all [len_dec]; done) | (simp_all; omega)) G5.out
            · intro ts v r
              refine r (fun ts w => WP _ _ _ _ ts _ w) ?_
              intro u4 u5 u6 u7 u8 u9 u10 u11 u12 u13 u14 u15 u16 u17 u18 u19 u20 u21 u22 u23 u24 u25 u26 u27 u28 u29 u30 u31 u32 u33 u34 u35 u36 u37 u38 u39 u40 u41 u42 u43 u44 u45 u46 u47 u48 u49 u50 u51 u52 u53 u54 u55 u56 u57 u58 u59 u60 q6 v6 hq6 h6
              clear r ts v
              have Q6 := Lib.hid hq6
              have G6 := Lib.hid h6
              clear hq6 h6
              simp only [List.drop_succ_cons, List.drop_zero]
              refine WP.cut 10 (fun ts w => ∀ D : List Value → World → Prop, (∀ (u4 u5 u6 u7 u8 u9 u10 u11 u12 u13 u14 u15 u16 u17 u18 u19 u20 u21 u22 u23 u24 u25 u26 u27 u28 u29 u30 u31 u32 u33 u34 u35 u36 u37 u38 u39 u40 u41 u42 u43 u44 u45 u46 u47 u48 u49 u50 u51 u52 u53 u54 u55 u56 u57 u58 u59 u60 u61 u62 u63 u64 u65 u66 u67 u68 u69 u70 : Value) (q : Bool) (w : World), q = (q6 && (f5 || decide (ne = 0))) → FormAt W B C x (.slice aa na ca) (.slice ab nb cb) (.slice ad nd cd) (.slice ae ne ce) (.slice ac nc cc) f0 f1 f2 f3 f4 f5 f6 w → D (.agg #[.int .i64 x.kind, .string x.name, .int .i64 x.n, .int .i64 x.a.kind, .int .i64 x.a.n, .string x.a.name, .slice aa na ca, .int .i64 x.b.kind, .int .i64 x.b.n, .string x.b.name, .slice ab nb cb, .slice ad nd cd, .slice ae ne ce, .slice ac nc cc] :: .pointer (some ⟨B, 0, none⟩) :: .bool false :: .pointer (some ⟨C, 0, none⟩) :: u4 :: u5 :: u6 :: u7 :: u8 :: u9 :: u10 :: u11 :: u12 :: u13 :: u14 :: u15 :: u16 :: u17 :: u18 :: u19 :: u20 :: u21 :: u22 :: u23 :: u24 :: u25 :: u26 :: u27 :: u28 :: u29 :: u30 :: u31 :: u32 :: u33 :: u34 :: u35 :: u36 :: u37 :: u38 :: u39 :: u40 :: u41 :: u42 :: u43 :: u44 :: u45 :: u46 :: u47 :: u48 :: u49 :: u50 :: u51 :: u52 :: u53 :: u54 :: u55 :: u56 :: u57 :: u58 :: u59 :: u60 :: u61 :: u62 :: u63 :: u64 :: u65 :: u66 :: u67 :: u68 :: u69 :: u70 :: .bool q :: undef :: undef :: undef :: undef :: undef :: undef :: undef :: undef :: undef :: []) w) → D ts w) ?_ ?_
              · intro l2 hl2
                simp only [List.take_succ_cons, List.take_zero, List.cons_append, List.nil_append]
                obtain ⟨i0, i1, i2, i3, i4, i5, i6, i7, i8, i9, i10, i11, i12, i13⟩ := G6.out.2.2.1
                simp only [Nat.zero_add] at i12
                obtain ⟨g0, g1, g2, g3, g4, g5, g6⟩ := G6.out.2.2.2
                clear i0 i1 i2 i3 i4 i5 i6 i7 i8 i9 i10 i11 i13 g0 g1 g2 g3 g4 g6 Q1 Q2 Q3 Q4 Q5 Q6
                cases q6
                · iterate 3 refine WP.skip 54 61 true rfl rfl rfl rfl rfl rfl ?_
                  iterate 4 refine WP.skip 57 64 false rfl rfl rfl rfl rfl rfl ?_
                  refine WP.skip 54 61 true rfl rfl rfl rfl rfl rfl ?_
                  constructor
                  go_wp2_with fail
                  exact hl2 _ _ fun D hD => hD _ _ _ _ _ _ _ _ _ _ _ _ _ _ _ _ _ _ _ _ _ _ _ _ _ _ _ _ _ _ _ _ _ _ _ _ _ _ _ _ _ _ _ _ _ _ _ _ _ _ _ _ _ _ _ _ _ _ _ _ _ _ _ _ _ _ _ _ _ (by rfl) G6.out
                · cases f5
                  rotate_left 1
                  · refine WP.cut 3 (fun ts w => ts = (.agg #[.int .i64 x.kind, .string x.name, .int .i64 x.n, .int .i64 x.a.kind, .int .i64 x.a.n, .string x.a.name, .slice aa na ca, .int .i64 x.b.kind, .int .i64 x.b.n, .string x.b.name, .slice ab nb cb, .slice ad nd cd, .slice ae ne ce, .slice ac nc cc] :: .pointer (some ⟨B, 0, none⟩) :: .bool false :: .pointer (some ⟨C, 0, none⟩) :: u4 :: u5 :: u6 :: u7 :: u8 :: u9 :: u10 :: u11 :: u12 :: u13 :: u14 :: u15 :: u16 :: u17 :: u18 :: u19 :: u20 :: u21 :: u22 :: u23 :: u24 :: u25 :: u26 :: u27 :: u28 :: u29 :: u30 :: u31 :: u32 :: u33 :: u34 :: u35 :: u36 :: u37 :: u38 :: u39 :: u40 :: u41 :: u42 :: u43 :: u44 :: u45 :: u46 :: u47 :: u48 :: u49 :: u50 :: u51 :: u52 :: u53 :: u54 :: u55 :: u56 :: u57 :: u58 :: u59 :: u60 :: .bool true :: .pointer (some ⟨C, 5, none⟩) :: .bool true :: .bool true :: undef :: undef :: undef :: undef :: undef :: undef :: undef :: undef :: undef :: undef :: undef :: undef :: undef :: undef :: undef :: undef :: []) ∧ w = v6) ?_ ?_
                    · intro l3 hl3
                      simp only [List.take_succ_cons, List.take_zero, List.cons_append, List.nil_append]
                      constructor
                      go_wp2_with fail
                      exact hl3 _ _ ⟨rfl, rfl⟩
                    · rintro _ _ ⟨rfl, rfl⟩
                      simp only [List.drop_succ_cons, List.drop_zero]
                      iterate 4 refine WP.skip 57 64 false rfl rfl rfl rfl rfl rfl ?_
                      constructor
                      go_wp2_with fail
                      exact hl2 _ _ fun D hD => hD _ _ _ _ _ _ _ _ _ _ _ _ _ _ _ _ _ _ _ _ _ _ _ _ _ _ _ _ _ _ _ _ _ _ _ _ _ _ _ _ _ _ _ _ _ _ _ _ _ _ _ _ _ _ _ _ _ _ _ _ _ _ _ _ _ _ _ _ _ (by rfl) G6.out
                  · constructor
                    go_wp2_with fail
                    all_goals exact hl2 _ _ fun D hD => hD _ _ _ _ _ _ _ _ _ _ _ _ _ _ _ _ _ _ _ _ _ _ _ _ _ _ _ _ _ _ _ _ _ _ _ _ _ _ _ _ _ _ _ _ _ _ _ _ _ _ _ _ _ _ _ _ _ _ _ _ _ _ _ _ _ _ _ _ _ (by show _ = _; go_light; clear hD; first | rfl | (simp [len_dec]; done) | (simp_all [len_dec]; done) | (simp_all; omega)) G6.out
              · intro ts v r
                refine r (fun ts w => WP _ _ _ _ ts _ w) ?_
                intro u4 u5 u6 u7 u8 u9 u10 u11 u12 u13 u14 u15 u16 u17 u18 u19 u20 u21 u22 u23 u24 u25 u26 u27 u28 u29 u30 u31 u32 u33 u34 u35 u36 u37 u38 u39 u40 u41 u42 u43 u44 u45 u46 u47 u48 u49 u50 u51 u52 u53 u54 u55 u56 u57 u58 u59 u60 u61 u62 u63 u64 u65 u66 u67 u68 u69 u70 q7 v7 hq7 h7
                clear r ts v
                have Q7 := Lib.hid hq7
                have G7 := Lib.hid h7
                clear hq7 h7
                simp only [List.drop_succ_cons, List.drop_zero]
                refine WP.cut 10 (fun ts w => ∀ D : List Value → World → Prop, (∀ (u4 u5 u6 u7 u8 u9 u10 u11 u12 u13 u14 u15 u16 u17 u18 u19 u20 u21 u22 u23 u24 u25 u26 u27 u28 u29 u30 u31 u32 u33 u34 u35 u36 u37 u38 u39 u40 u41 u42 u43 u44 u45 u46 u47 u48 u49 u50 u51 u52 u53 u54 u55 u56 u57 u58 u59 u60 u61 u62 u63 u64 u65 u66 u67 u68 u69 u70 u71 u72 u73 u74 u75 u76 u77 u78 u79 : Value) (q : Bool) (w : World), q = (q7 && (f6 || decide (nc = 0))) → FormAt W B C x (.slice aa na ca) (.slice ab nb cb) (.slice ad nd cd) (.slice ae ne ce) (.slice ac nc cc) f0 f1 f2 f3 f4 f5 f6 w → D (.agg #[.int .i64 x.kind, .string x.name, .int .i64 x.n, .int .i64 x.a.kind, .int .i64 x.a.n, .string x.a.name, .slice aa na ca, .int .i64 x.b.kind, .int .i64 x.b.n, .string x.b.name, .slice ab nb cb, .slice ad nd cd, .slice ae ne ce, .slice ac nc cc] :: .pointer (some ⟨B, 0, none⟩) :: .bool q :: .pointer (some ⟨C, 0, none⟩) :: u4 :: u5 :: u6 :: u7 :: u8 :: u9 :: u10 :: u11 :: u12 :: u13 :: u14 :: u15 :: u16 :: u17 :: u18 :: u19 :: u20 :: u21 :: u22 :: u23 :: u24 :: u25 :: u26 :: u27 :: u28 :: u29 :: u30 :: u31 :: u32 :: u33 :: u34 :: u35 :: u36 :: u37 :: u38 :: u39 :: u40 :: u41 :: u42 :: u43 :: u44 :: u45 :: u46 :: u47 :: u48 :: u49 :: u50 :: u51 :: u52 :: u53 :: u54 :: u55 :: u56 :: u57 :: u58 :: u59 :: u60 :: u61 :: u62 :: u63 :: u64 :: u65 :: u66 :: u67 :: u68 :: u69 :: u70 :: u71 :: u72 :: u73 :: u74 :: u75 :: u76 :: u77 :: u78 :: u79 :: .bool q :: []) w) → D ts w) ?_ ?_
                · intro l2 hl2
                  simp only [List.take_succ_cons, List.take_zero, List.cons_append, List.nil_append]
                  obtain ⟨i0, i1, i2, i3, i4, i5, i6, i7, i8, i9, i10, i11, i12, i13⟩ := G7.out.2.2.1
                  simp only [Nat.zero_add] at i13
                  obtain ⟨g0, g1, g2, g3, g4, g5, g6⟩ := G7.out.2.2.2
                  clear i0 i1 i2 i3 i4 i5 i6 i7 i8 i9 i10 i11 i12 g0 g1 g2 g3 g4 g5 Q1 Q2 Q3 Q4 Q5 Q6 Q7
                  cases q7
                  · iterate 3 refine WP.skip 64 71 true rfl rfl rfl rfl rfl rfl ?_
                    iterate 4 refine WP.skip 67 74 false rfl rfl rfl rfl rfl rfl ?_
                    refine WP.skip 64 71 true rfl rfl rfl rfl rfl rfl ?_
                    constructor
                    go_wp2_with fail
                    exact hl2 _ _ fun D hD => hD _ _ _ _ _ _ _ _ _ _ _ _ _ _ _ _ _ _ _ _ _ _ _ _ _ _ _ _ _ _ _ _ _ _ _ _ _ _ _ _ _ _ _ _ _ _ _ _ _ _ _ _ _ _ _ _ _ _ _ _ _ _ _ _ _ _ _ _ _ _ _ _ _ _ _ _ _ _ (by rfl) G7.out
                  · cases f6
                    rotate_left 1
                    · refine WP.cut 3 (fun ts w => ts = (.agg #[.int .i64 x.kind, .string x.name, .int .i64 x.n, .int .i64 x.a.kind, .int .i64 x.a.n, .string x.a.name, .slice aa na ca, .int .i64 x.b.kind, .int .i64 x.b.n, .string x.b.name, .slice ab nb cb, .slice ad nd cd, .slice ae ne ce, .slice ac nc cc] :: .pointer (some ⟨B, 0, none⟩) :: .bool false :: .pointer (some ⟨C, 0, none⟩) :: u4 :: u5 :: u6 :: u7 :: u8 :: u9 :: u10 :: u11 :: u12 :: u13 :: u14 :: u15 :: u16 :: u17 :: u18 :: u19 :: u20 :: u21 :: u22 :: u23 :: u24 :: u25 :: u26 :: u27 :: u28 :: u29 :: u30 :: u31 :: u32 :: u33 :: u34 :: u35 :: u36 :: u37 :: u38 :: u39 :: u40 :: u41 :: u42 :: u43 :: u44 :: u45 :: u46 :: u47 :: u48 :: u49 :: u50 :: u51 :: u52 :: u53 :: u54 :: u55 :: u56 :: u57 :: u58 :: u59 :: u60 :: u61 :: u62 :: u63 :: u64 :: u65 :: u66 :: u67 :: u68 :: u69 :: u70 :: .bool true :: .pointer (some ⟨C, 6, none⟩) :: .bool true :: .bool true :: undef :: undef :: undef :: undef :: undef :: undef :: []) ∧ w = v7) ?_ ?_
                      · intro l3 hl3
                        simp only [List.take_succ_cons, List.take_zero, List.cons_append, List.nil_append]
                        constructor
                        go_wp2_with fail
                        exact hl3 _ _ ⟨rfl, rfl⟩
                      · rintro _ _ ⟨rfl, rfl⟩
                        simp only [List.drop_succ_cons, List.drop_zero]
                        iterate 4 refine WP.skip 67 74 false rfl rfl rfl rfl rfl rfl ?_
                        constructor
                        go_wp2_with fail
                        exact hl2 _ _ fun D hD => hD _ _ _ _ _ _ _ _ _ _ _ _ _ _ _ _ _ _ _ _ _ _ _ _ _ _ _ _ _ _ _ _ _ _ _ _ _ _ _ _ _ _ _ _ _ _ _ _ _ _ _ _ _ _ _ _ _ _ _ _ _ _ _ _ _ _ _ _ _ _ _ _ _ _ _ _ _ _ (by rfl) G7.out
                    · constructor
                      go_wp2_with fail
                      all_goals exact hl2 _ _ fun D hD => hD _ _ _ _ _ _ _ _ _ _ _ _ _ _ _ _ _ _ _ _ _ _ _ _ _ _ _ _ _ _ _ _ _ _ _ _ _ _ _ _ _ _ _ _ _ _ _ _ _ _ _ _ _ _ _ _ _ _ _ _ _ _ _ _ _ _ _ _ _ _ _ _ _ _ _ _ _ _ (by show _ = _; go_light; clear hD; first | rfl | (simp [len_dec]; done) | (simp_all [len_dec]; done) | (simp_all; omega)) G7.out
                · intro ts v r
                  refine r (fun ts w => WP _ _ _ _ ts _ w) ?_
                  intro u4 u5 u6 u7 u8 u9 u10 u11 u12 u13 u14 u15 u16 u17 u18 u19 u20 u21 u22 u23 u24 u25 u26 u27 u28 u29 u30 u31 u32 u33 u34 u35 u36 u37 u38 u39 u40 u41 u42 u43 u44 u45 u46 u47 u48 u49 u50 u51 u52 u53 u54 u55 u56 u57 u58 u59 u60 u61 u62 u63 u64 u65 u66 u67 u68 u69 u70 u71 u72 u73 u74 u75 u76 u77 u78 u79 q8 v8 hq8 h8
                  clear r ts v
                  have Q8 := Lib.hid hq8
                  have G8 := Lib.hid h8
                  clear hq8 h8
                  simp only [List.drop_succ_cons, List.drop_zero]
                  have Hres : Hid (q8 = x.formed) := by
                    show _ = _
                    unfold St.formed
                    rw [Q8.out, Q7.out, Q6.out, Q5.out, Q4.out, Q3.out, Q2.out, Q1.out, HF.out.1, HF.out.2.1, HF.out.2.2.1, HF.out.2.2.2.1, HF.out.2.2.2.2.1, HF.out.2.2.2.2.2.1, HF.out.2.2.2.2.2.2, Hl.out.2.2.1, Hl.out.2.2.2.1, Hl.out.2.2.2.2]
                  clear Q1 Q2 Q3 Q4 Q5 Q6 Q7 Q8
                  constructor
                  go_wp2_with fail
                  go_ret
                  exact ⟨by rw [Hres.out]; rfl, G8.out.1⟩
end Go.Proofs.YtgcplcffejbniaaGreat
