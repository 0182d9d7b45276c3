/- R2.Check: what is wrong first with a program. -/
import Derived.Test.YtgcplcffejbniaaGreatTrChkS
import Derived.StillTailTactics
/- R2's look at statements. -/
namespace Go.Proofs.YtgcplcffejbniaaGreat
open Go.RowKit

def goN (e : Int) (k : Nat) : Int := if e = 0 then (k : Int) else 0
theorem goN_zero (k : Nat) : goN 0 k = k := rfl
theorem goN_no {e : Int} (h : e ≠ 0) (k : Nat) : goN e k = 0 := if_neg h
def RChkOk (w0 : World) (l : List St) (v : Value) : Prop := ∀ (W : World) (c : Nat) (n e level : Int), Below w0.heap.size w0 W → w0.heap.size ≤ c → KAt W c n e → 0 ≤ n → n + (St.totals l : Int) ≤ 1000000 → 0 ≤ level → level ≤ 100 → (e = 0 → level ≤ 99) →
  Calls Tryz.prog 46 #[ptrV c, v, .int .i64 level] W (fun E W' => E = .returned (.tuple #[]) ∧ KAt W' c (n + goN e (St.chks l level).1) (keepE e (St.chks l level).2) ∧ Oth (· = c) W W')
/-- What is wrong with a statement itself, at a level. -/
def St.fown (x : St) (level : Int) : Int := if 32 < level then 20 else x.own
theorem St.front_eq (x : St) (level : Int) : x.front level = keepE (keepE (x.fown level) (if cntA x.kind = true then x.a.err (level + 1) else 0)) (if cntB x.kind = true then x.b.err (level + 1) else 0) := by
  unfold St.front St.fown keepE
  by_cases h : 32 < level
  · simp [h]
  · simp only [h, if_false]
    by_cases ho : x.own = 0
    · simp only [ho, ne_eq, not_true_eq_false, if_false]
      cases cntA x.kind <;> cases cntB x.kind <;> simp <;> (try (split <;> simp_all)) <;> (try exact fun h => h.symm)
    · simp [ho]
theorem KAt.after {W : World} {c : Nat} {n : Int} {r q : Nat × Int} (h : KAt W c (n + (r.1 : Int) + goN r.2 q.1) (keepE r.2 q.2)) : KAt W c (n + ((after r q).1 : Int)) (after r q).2 := by
  by_cases he : r.2 = 0
  · rw [after_ok he]
    rw [he, goN_zero, keepE_zero] at h
    exact h.to (by simp only; omega)
  · rw [after_err he]
    rw [goN_no he, keepE_no he] at h
    exact h.to (by omega)
theorem after_zero2 {r q : Nat × Int} (h : (after r q).2 = 0) : r.2 = 0 := by
  by_cases he : r.2 = 0
  · exact he
  · rw [after_err he] at h; exact h
set_option maxRecDepth 100000 in
set_option maxHeartbeats 8000000 in
theorem rstmt_row (x : St) (aa ab ad ae ac : Option Addr) (na nb nd ne nc ca cb cd ce cc : Nat) (vk : Nat → Value) (w0 : World) (hna : na = x.a.args.length) (hnb : nb = x.b.args.length) (hnd : nd = x.body.length) (hne : ne = x.els.length) (hnc : nc = x.cases.length)
    (hnc62 : nc ≤ 9223372036854775807) (fa : RExprOk w0 x.a.args (.slice aa na ca)) (fb : RExprOk w0 x.b.args (.slice ab nb cb)) (fd : RChkOk w0 x.body (.slice ad nd cd)) (fe : RChkOk w0 x.els (.slice ae ne ce))
    (fc : RowOf w0 (.slice ac nc cc) nc 2 (fun b o k => ∀ y, x.cases[k]? = some y → CsAt w0 b o y (vk k))) (fk : ∀ (j : Nat) y, x.cases[j]? = some y → StsIn w0 y.body (vk j) ∧ RChkOk w0 y.body (vk j))
    (W : World) (c : Nat) (n level : Int) (hB : Below w0.heap.size w0 W) (hcb : w0.heap.size ≤ c) (hK : KAt W c n 0) (hn0 : 0 ≤ n) (hn1 : n + (x.total : Int) ≤ 1000000) (hl0 : 0 ≤ level) (hl1 : level ≤ 99) :
    Calls Tryz.prog 68 #[ptrV c, stVal x (.slice aa na ca) (.slice ab nb cb) (.slice ad nd cd) (.slice ae ne ce) (.slice ac nc cc), .int .i64 level] W (fun E W' => E = .returned (.tuple #[]) ∧ KAt W' c (n + ((x.chk level).1 : Int)) (x.chk level).2 ∧ Oth (· = c) W W') := by
  have Hy := Lib.hid (And.intro fa (And.intro fb (And.intro fd (And.intro fe (And.intro fc fk)))))
  have Hna := Lib.hid (And.intro hna (And.intro hnb (And.intro hnd (And.intro hne hnc))))
  have Hn1 := Lib.hid hn1
  have Hxt : Hid (x.total = 1 + x.a.part + x.b.part + St.totals x.body + Cs.totals x.cases + St.totals x.els) := x.total_eq
  have hm1 : n ≤ 999999 := by have := Hxt.out; omega
  have q1 := hK.lt
  obtain ⟨W1, hW1⟩ : ∃ W1, W1 = W.alloc (.cells #[.int .i64 x.kind, .string x.name, .int .i64 x.n, .int .i64 x.a.kind, .int .i64 x.a.n, .string x.a.name, .slice aa na ca, .int .i64 x.b.kind, .int .i64 x.b.n, .string x.b.name, .slice ab nb cb, .slice ad nd cd, .slice ae ne ce, .slice ac nc cc] 43) := ⟨_, rfl⟩
  have hK1 : KAt W1 c n 0 := by rw [hW1]; exact hK.later ((Below.refl _ _).alloc (Nat.le_refl _) _)
  have hO1 : Oth (· = c) W W1 := by rw [hW1]; exact (Oth.refl _ _).alloc _
  have hs1 : W1.heap.size = W.heap.size + 1 := by rw [hW1]; simp
  have hv1 : StAt W1 W.heap.size 0 x (.slice aa na ca) (.slice ab nb cb) (.slice ad nd cd) (.slice ae ne ce) (.slice ac nc cc) := by rw [hW1]; exact StAt.box _ _ _ _ _ _ _ _
  obtain ⟨W2, hW2⟩ : ∃ W2, W2 = W1.setCell ⟨c, 0, none⟩ (.int .i64 (n + 1)) := ⟨_, rfl⟩
  have hK2 : KAt W2 c (n + 1) 0 := by rw [hW2]; exact hK1.set0 _
  have hO2 : Oth (· = c) W1 W2 := by rw [hW2]; exact (Oth.refl (· = c) W1).set (p := ⟨c, 0, none⟩) rfl _
  have hv2 := hv1.oth hO2 (by omega) (by omega)
  have H2 := Lib.hid (And.intro hK2 (And.intro (hO1.trans hO2) hv2))
  have HB := Lib.hid hB
  have HW1 := Lib.hid hW1
  have HW2 := Lib.hid hW2
  have k0 := hK1.c0
  have k2 := hK1.f0
  have q2 : W.heap.size < W1.heap.size := by omega
  have q3 := hO2.size
  unfold stVal
  clear fa fb fd fe fc fk hna hnb hnd hne hnc hn1 hW1 hW2 hK hK1 hO1 hs1 hv1 hK2 hO2 hv2 hB
  go_enter Tryz.func68, Tryz.ntmps68
  go_upto_region 1 with (fail)
  rw [← HW1.out]
  go_upto_region 2 with (fail)
  rw [← HW2.out]
  obtain ⟨i0, i1, i2, i3, i4, i5, i6, i7, i8, i9, i10, i11, i12, i13⟩ := H2.out.2.2
  clear k0 k2 i1 i2 i3 i4 i5 i6 i7 i8 i9 i10 i11 i12 i13
  go_wp2_with fail
  refine (counts_any x.kind W2).mono ?_
  rintro e w3 ⟨rfl, hb3⟩
  unfold cntV
  obtain ⟨f0, hf0⟩ : ∃ f, f = cntName x.kind := ⟨_, rfl⟩
  obtain ⟨f1, hf1⟩ : ∃ f, f = cntN x.kind := ⟨_, rfl⟩
  obtain ⟨f2, hf2⟩ : ∃ f, f = cntA x.kind := ⟨_, rfl⟩
  obtain ⟨f3, hf3⟩ : ∃ f, f = cntB x.kind := ⟨_, rfl⟩
  obtain ⟨f4, hf4⟩ : ∃ f, f = cntBody x.kind := ⟨_, rfl⟩
  obtain ⟨f5, hf5⟩ : ∃ f, f = cntElse x.kind := ⟨_, rfl⟩
  obtain ⟨f6, hf6⟩ : ∃ f, f = cntCases x.kind := ⟨_, rfl⟩
  rw [← hf0, ← hf1, ← hf2, ← hf3, ← hf4, ← hf5, ← hf6]
  obtain ⟨W4, hW4⟩ : ∃ W4, W4 = w3.alloc (.cells #[.bool f0, .bool f1, .bool f2, .bool f3, .bool f4, .bool f5, .bool f6] 134) := ⟨_, rfl⟩
  obtain ⟨D, hD⟩ : ∃ D, D = w3.heap.size := ⟨_, rfl⟩
  have hs4 : W4.heap.size = w3.heap.size + 1 := by rw [hW4]; simp
  have hb4 : Below w3.heap.size w3 W4 := by rw [hW4]; exact (Below.refl _ _).alloc (Nat.le_refl _) _
  have hfl : FlAt W4 D f0 f1 f2 f3 f4 f5 f6 := by rw [hW4, hD]; constructor <;> exact World.cell?_alloc_at _ _ _ _ rfl
  have q4 := hb3.size
  have hb24 : Below W2.heap.size W2 W4 := hb3.trans (hb4.mono q4)
  have hst4 := H2.out.2.2.later hb24 (by omega)
  have HF := Lib.hid (And.intro hf0 (And.intro hf2 hf3))
  have HK4 := Lib.hid (H2.out.1.later hb24)
  have HO4 : Hid (Oth (· = c) W W4) := H2.out.2.1.trans (.of_below hb24)
  have HS4 := Lib.hid (And.intro hst4 hfl)
  have HB4 : Hid (Below w0.heap.size w0 W4) := HB.out.trans (HO4.out.below HB.out.size fun _ e => by omega)
  have q5 : W.heap.size < D := by omega
  have q6 : D < W4.heap.size := by omega
  have q7 : W.heap.size < W4.heap.size := by omega
  have q8 : c < W4.heap.size := by omega
  have HW4 := Lib.hid hW4
  have HD := Lib.hid hD
  clear hf0 hf1 hf2 hf3 hf4 hf5 hf6 hW4 hD hs4 hb4 hfl hb24 hst4 hb3 q4 i0 H2 HW1 HW2
  go_upto_block 0 with (fail)
  rw [← HW4.out, ← HD.out]
  obtain ⟨fm, hfm⟩ : ∃ z, z = x.formed := ⟨_, rfl⟩
  obtain ⟨no, hno⟩ : ∃ z, z = nameB x.name := ⟨_, rfl⟩
  obtain ⟨lo, hlo⟩ : ∃ z, z = lowestB x.cases := ⟨_, rfl⟩
  have Hown : Hid (¬ 32 < level → x.fown level = if fm = false then 5 else if (f0 && !no) = true then 8 else if (decide (x.n < 0) || lo) = true then 1 else if x.kind = 10 ∧ x.a.kind ≠ 4 then 5 else 0) := by
    intro hl
    unfold St.fown St.own
    rw [if_neg hl, ← hfm, ← hno, ← hlo, ← HF.out.1]
  have Hset : Hid (∀ w, KAt w c (n + 1) 0 → Oth (· = c) W4 w → ∀ e, x.fown level = e → KAt (w.setCell ⟨c, 1, none⟩ (.int .i64 e)) c (n + 1) (x.fown level) ∧ Oth (· = c) W4 (w.setCell ⟨c, 1, none⟩ (.int .i64 e))) := fun w hk ho e he => ⟨by rw [he]; exact hk.set1 e, ho.set (p := ⟨c, 1, none⟩) rfl _⟩
  have Hnone : Hid (∀ w, KAt w c (n + 1) 0 → Oth (· = c) W4 w → x.fown level = 0 → KAt w c (n + 1) (x.fown level) ∧ Oth (· = c) W4 w) := fun w hk ho he => ⟨by rw [he]; exact hk, ho⟩
  have Hfm := Lib.hid hfm
  have Hno := Lib.hid hno
  have Hlo := Lib.hid hlo
  clear hfm hno hlo
  go_cut [1, 16, 17] (fun _ _ _ wc => KAt wc c (n + 1) (x.fown level) ∧ Oth (· = c) W4 wc)
  case first =>
    obtain ⟨i0, i1, i2, i3, i4, i5, i6, i7, i8, i9, i10, i11, i12, i13⟩ := HS4.out.1
    simp only [Nat.zero_add] at i1 i2 i3 i4 i5 i6 i7 i8 i9 i10 i11 i12 i13
    have l1 := HK4.out.c1
    have l3 := HK4.out.f1
    by_cases hl : 32 < level
    · go_wp2_with fail
      go_meet
      case rel => exact Hset.out _ HK4.out (Oth.refl _ _) _ (if_pos (by omega))
    · have Ho := Lib.hid (Hown.out hl)
      clear Hown
      go_wp2_with fail
      clear i0 i1 i2 i3 i4 i5 i6 i7 i8 i9 i10 i11 i12 i13 l1 l3
      have hf := formed_any x aa ab ad ae ac na nb nd ne nc ca cb cd ce cc Hna.out.1 Hna.out.2.1 Hna.out.2.2.1 Hna.out.2.2.2.1 Hna.out.2.2.2.2 W4
      unfold stVal at hf
      refine hf.mono ?_
      rintro e w5 ⟨rfl, hb5⟩
      clear hf
      rw [← Hfm.out]
      have HK5 := Lib.hid (HK4.out.later hb5)
      have HO5 := Lib.hid (Oth.of_below (S := (· = c)) hb5)
      have HB5 : Hid (Below w0.heap.size w0 w5) := HB4.out.trans (hb5.mono HB4.out.size)
      obtain ⟨i0, i1, i2, i3, i4, i5, i6, i7, i8, i9, i10, i11, i12, i13⟩ := HS4.out.1.later hb5 q7
      obtain ⟨g0, g1, g2, g3, g4, g5, g6⟩ := HS4.out.2.later hb5 q6
      simp only [Nat.zero_add] at i1 i2 i3 i13
      clear i4 i5 i6 i7 i8 i9 i10 i11 i12 g1 g2 g3 g4 g5 g6
      have l1 := HK5.out.c1
      have l3 := HK5.out.f1
      have q9 := hb5.size
      have HS5 := Lib.hid (And.intro (HS4.out.1.later hb5 q7) (HS4.out.2.later hb5 q6))
      have q10 : W.heap.size < w5.heap.size := by omega
      have q11 : D < w5.heap.size := by omega
      clear hb5 Hfm
      cases fm
      · go_wp2_with fail
        go_meet
        case rel => exact Hset.out _ HK5.out HO5.out _ (by rw [Ho.out]; rfl)
      · cases f0
        · go_wp2_with fail
          all_goals first
            | go_meet
              case rel => first
                | exact Hset.out _ HK5.out HO5.out _ (by rw [Ho.out]; simp_all <;> (intros; omega))
                | exact Hnone.out _ HK5.out HO5.out (by rw [Ho.out]; simp_all <;> (intros; omega))
            | refine (rlowest_any x.cases (.slice ac nc cc) vk _ (by rw [← Hna.out.2.2.2.2]; exact Hy.out.2.2.2.2.1.imp HB5.out.size fun b o k hbl _ hp y hy => (hp y hy).later HB5.out hbl)).mono ?_
              rintro e w8 ⟨rfl, hw8⟩
              rw [← hw8, ← Hlo.out]
              clear hw8 Hlo
              cases lo
              all_goals
                go_wp2_with fail
                all_goals
                  go_meet
                  case rel => first
                    | exact Hset.out _ HK5.out HO5.out _ (by rw [Ho.out]; simp_all <;> (intros; omega))
                    | exact Hnone.out _ HK5.out HO5.out (by rw [Ho.out]; simp_all <;> (intros; omega))
        · go_wp2_with fail
          refine (rname_any x.name w5).mono ?_
          rintro e w6 ⟨rfl, hb6⟩
          rw [← Hno.out]
          have HK6 := Lib.hid (HK5.out.later hb6)
          have HO6 := Lib.hid (HO5.out.trans (Oth.of_below (S := (· = c)) hb6))
          have HB6 : Hid (Below w0.heap.size w0 w6) := HB5.out.trans (hb6.mono HB5.out.size)
          clear i0 i1 i2 i3 i13 g0 l1 l3 Hno
          obtain ⟨i0, i1, i2, i3, i4, i5, i6, i7, i8, i9, i10, i11, i12, i13⟩ := HS5.out.1.later hb6 q10
          simp only [Nat.zero_add] at i1 i2 i3 i13
          clear i4 i5 i6 i7 i8 i9 i10 i11 i12
          have l1 := HK6.out.c1
          have l3 := HK6.out.f1
          have q12 := hb6.size
          clear hb6
          cases no
          · go_wp2_with fail
            go_meet
            case rel => exact Hset.out _ HK6.out HO6.out _ (by rw [Ho.out]; rfl)
          · go_wp2_with fail
            all_goals first
              | go_meet
                case rel => first
                  | exact Hset.out _ HK6.out HO6.out _ (by rw [Ho.out]; simp_all <;> (intros; omega))
                  | exact Hnone.out _ HK6.out HO6.out (by rw [Ho.out]; simp_all <;> (intros; omega))
              | refine (rlowest_any x.cases (.slice ac nc cc) vk _ (by rw [← Hna.out.2.2.2.2]; exact Hy.out.2.2.2.2.1.imp HB6.out.size fun b o k hbl _ hp y hy => (hp y hy).later HB6.out hbl)).mono ?_
                rintro e w8 ⟨rfl, hw8⟩
                rw [← hw8, ← Hlo.out]
                clear hw8 Hlo
                cases lo
                all_goals
                  go_wp2_with fail
                  all_goals
                    go_meet
                    case rel => first
                      | exact Hset.out _ HK6.out HO6.out _ (by rw [Ho.out]; simp_all <;> (intros; omega))
                      | exact Hnone.out _ HK6.out HO6.out (by rw [Ho.out]; simp_all <;> (intros; omega))
  case rest =>
    obtain ⟨hK5, hO5⟩ := hcut
    obtain ⟨V, hV⟩ : ∃ V : World, V = wc := ⟨_, rfl⟩
    subst hV
    obtain ⟨e1, he1⟩ : ∃ z, z = x.fown level := ⟨_, rfl⟩
    rw [← he1] at hK5
    have He1 : Hid (e1 = x.fown level) := he1
    have HK5 := Lib.hid hK5
    have HO5 := Lib.hid hO5
    have r1 := hO5.size
    have HS5 := Lib.hid (And.intro (HS4.out.1.oth hO5 q7 (by omega)) (HS4.out.2.oth hO5 q6 (by omega)))
    have HB5 : Hid (Below w0.heap.size w0 V) := HB4.out.trans (hO5.below HB4.out.size fun _ e => by omega)
    have r2 : W.heap.size < V.heap.size := by omega
    have r3 : D < V.heap.size := by omega
    clear he1 hK5 hO5 Hset Hnone Hown Hfm Hno Hlo
    obtain ⟨g0, g1, g2, g3, g4, g5, g6⟩ := HS5.out.2
    obtain ⟨i0, i1, i2, i3, i4, i5, i6, i7, i8, i9, i10, i11, i12, i13⟩ := HS5.out.1
    simp only [Nat.zero_add] at i3 i4 i5 i6
    clear g0 g1 g3 g4 g5 g6 i0 i1 i2 i7 i8 i9 i10 i11 i12 i13
    go_upto_if 69 with (fail)
    obtain ⟨ea, hea⟩ : ∃ z, z = x.a.err (level + 1) := ⟨_, rfl⟩
    obtain ⟨eb, heb⟩ : ∃ z, z = x.b.err (level + 1) := ⟨_, rfl⟩
    have Heab := Lib.hid (And.intro hea heb)
    clear hea heb
    go_cut [68, 69] (fun _ _ wc => KAt wc c (n + 1) (keepE e1 (if f2 = true then ea else 0)) ∧ Oth (· = c) V wc)
    case first =>
      cases f2
      · go_wp2_with fail
        go_meet
        case rel =>
          refine ⟨?_, Oth.refl _ _⟩
          have h := HK5.out
          unfold keepE
          by_cases he : e1 = 0
          · rw [if_pos he]; rw [he] at h; simpa using h
          · rw [if_neg he]; exact h
      · go_wp2_with fail
        refine (Hy.out.1 x.a rfl _ c (n + 1) e1 (level + 1) HB5.out hcb HK5.out (by omega) (by omega)).mono ?_
        rintro e w7 ⟨rfl, hK7, hO7⟩
        have HK7 := Lib.hid (And.intro hK7 hO7)
        clear hK7 hO7 i3 i4 i5 i6 g2
        go_wp2_with fail
        go_meet
        case rel => exact ⟨by have h := HK7.out.1; rw [← Heab.out.1] at h; simpa using h, HK7.out.2⟩
    case rest =>
      obtain ⟨hK6, hO6⟩ := hcut
      obtain ⟨V2, hV2⟩ : ∃ V : World, V = wc := ⟨_, rfl⟩
      subst hV2
      clear i3 i4 i5 i6 g2
      obtain ⟨e2, he2⟩ : ∃ z, z = keepE e1 (if f2 = true then ea else 0) := ⟨_, rfl⟩
      rw [← he2] at hK6
      have He2 := Lib.hid he2
      have HK6 := Lib.hid hK6
      have r4 := hO6.size
      have HS6 := Lib.hid (And.intro (HS5.out.1.oth hO6 r2 (by omega)) (HS5.out.2.oth hO6 r3 (by omega)))
      have HB6 : Hid (Below w0.heap.size w0 V2) := HB5.out.trans (hO6.below HB5.out.size fun _ e => by omega)
      have HO6 : Hid (Oth (· = c) W4 V2) := HO5.out.trans hO6
      have r5 : W.heap.size < V2.heap.size := by omega
      have r6 : D < V2.heap.size := by omega
      clear he2 hK6 hO6
      obtain ⟨g0, g1, g2, g3, g4, g5, g6⟩ := HS6.out.2
      obtain ⟨i0, i1, i2, i3, i4, i5, i6, i7, i8, i9, i10, i11, i12, i13⟩ := HS6.out.1
      simp only [Nat.zero_add] at i7 i8 i9 i10
      clear g0 g1 g2 g4 g5 g6 i0 i1 i2 i3 i4 i5 i6 i11 i12 i13
      go_upto_if 77 with (fail)
      go_cut [76, 77] (fun _ _ wc => KAt wc c (n + 1) (keepE e2 (if f3 = true then eb else 0)) ∧ Oth (· = c) V2 wc)
      case first =>
        cases f3
        · go_wp2_with fail
          go_meet
          case rel =>
            refine ⟨?_, Oth.refl _ _⟩
            have h := HK6.out
            unfold keepE
            by_cases he : e2 = 0
            · rw [if_pos he]; rw [he] at h; simpa using h
            · rw [if_neg he]; exact h
        · go_wp2_with fail
          refine (Hy.out.2.1 x.b rfl _ c (n + 1) e2 (level + 1) HB6.out hcb HK6.out (by omega) (by omega)).mono ?_
          rintro e w7 ⟨rfl, hK7, hO7⟩
          have HK7 := Lib.hid (And.intro hK7 hO7)
          clear hK7 hO7 i7 i8 i9 i10 g3
          go_wp2_with fail
          go_meet
          case rel => exact ⟨by have h := HK7.out.1; rw [← Heab.out.2] at h; simpa using h, HK7.out.2⟩
      case rest =>
        obtain ⟨hK7, hO7⟩ := hcut
        obtain ⟨V3, hV3⟩ : ∃ V : World, V = wc := ⟨_, rfl⟩
        subst hV3
        clear i7 i8 i9 i10 g3
        obtain ⟨e3, he3⟩ : ∃ z, z = keepE e2 (if f3 = true then eb else 0) := ⟨_, rfl⟩
        rw [← he3] at hK7
        have He3 : Hid (e3 = x.front level) := by
          show _ = _
          rw [St.front_eq, he3, He2.out, He1.out, Heab.out.1, Heab.out.2, HF.out.2.1, HF.out.2.2]
        have Hlow : Hid (e3 = 0 → level ≤ 32) := by
          intro h
          have h2 := He3.out
          rw [h] at h2
          by_cases hl : 32 < level
          · exfalso
            unfold St.front at h2
            rw [if_pos hl] at h2
            omega
          · omega
        have HK7 := Lib.hid hK7
        have r7 := hO7.size
        have HS7 := Lib.hid (HS6.out.1.oth hO7 r5 (by omega))
        have HB7 : Hid (Below w0.heap.size w0 V3) := HB6.out.trans (hO7.below HB6.out.size fun _ e => by omega)
        have HO7 : Hid (Oth (· = c) W V3) := HO4.out.trans (HO6.out.trans hO7)
        have r8 : W.heap.size < V3.heap.size := by omega
        have Hchk : Hid (x.chk level = after (1, e3) (after (St.chks x.body (level + 1)) (after (Cs.chks x.cases (level + 1)) (St.chks x.els (level + 1))))) := by show _ = _; rw [St.chk_eq, ← He3.out]
        clear he3 hK7 hO7 He2 He1 Heab HF HS4 HS5 HS6 HB4 HB5 HB6 HO4 HO5 HO6 HK4 HK5 HK6 HW4 HD
        obtain ⟨i0, i1, i2, i3, i4, i5, i6, i7, i8, i9, i10, i11, i12, i13⟩ := HS7.out
        simp only [Nat.zero_add] at i11
        clear i0 i1 i2 i3 i4 i5 i6 i7 i8 i9 i10 i12 i13
        go_wp2_with fail
        refine (Hy.out.2.2.1 _ c (n + 1) e3 (level + 1) HB7.out hcb HK7.out (by omega) (by have := Hn1.out; have := Hxt.out; omega) (by omega) (by omega) (fun h => by have := Hlow.out h; omega)).mono ?_
        rintro e w8 ⟨rfl, hK8, hO8⟩
        obtain ⟨r, hr⟩ : ∃ r, r = after (1, e3) (St.chks x.body (level + 1)) := ⟨_, rfl⟩
        have hKr : KAt w8 c (n + (r.1 : Int)) r.2 := by rw [hr]; exact KAt.after (r := (1, e3)) hK8
        have Hr1 : Hid (r.1 ≤ 1 + St.totals x.body) := by
          show _ ≤ _
          have h1 := after_fst_le (1, e3) (St.chks x.body (level + 1))
          have h2 := St.chks_le x.body (level + 1)
          rw [← hr] at h1
          simp only at h1
          omega
        have Hr2 : Hid (r.2 = 0 → level ≤ 32) := fun h => Hlow.out (after_zero2 (by rw [← hr]; exact h))
        have Hchk2 : Hid (x.chk level = after r (after (Cs.chks x.cases (level + 1)) (St.chks x.els (level + 1)))) := by show _ = _; rw [Hchk.out, ← after_assoc, ← hr]
        have HKr := Lib.hid hKr
        have r9 := hO8.size
        have HS8 := Lib.hid (HS7.out.oth hO8 r8 (by omega))
        have HO8 : Hid (Oth (· = c) W w8) := HO7.out.trans hO8
        have r10 : W.heap.size < w8.heap.size := by omega
        clear hK8 hO8 hr hKr i11 Hchk Hlow He3 HK7 HS7 HB7 HO7
        go_wp2_with fail
        go_loopg [7] nc (fun g jv wx => ∃ j : Nat, g = nc - j ∧ jv = .int .i64 (j : Int) ∧ j ≤ nc ∧ KAt wx c (n + ((after r (Cs.chks (x.cases.take j) (level + 1))).1 : Int)) (after r (Cs.chks (x.cases.take j) (level + 1))).2 ∧ Oth (· = c) w8 wx)
        case atStart => exact ⟨0, rfl, rfl, by omega, by simpa [Cs.chks, after_zero] using HKr.out, Oth.refl _ _⟩
        case round =>
          obtain ⟨j, hg2, rfl, hj, hC, hO⟩ := hrel
          obtain ⟨s, hs⟩ : ∃ s, s = after r (Cs.chks (x.cases.take j) (level + 1)) := ⟨_, rfl⟩
          rw [← hs] at hC
          have Hs := Lib.hid hs
          have HG2 := Lib.hid hg2
          have HC := Lib.hid hC
          have HOj := Lib.hid hO
          have hw8 : Oth (· = c) W wr := HO8.out.trans hO
          have HO9 := Lib.hid hw8
          have HBw : Hid (Below w0.heap.size w0 wr) := HB.out.trans (hw8.below HB.out.size fun _ e => by omega)
          have qs := hO.size
          have Hs1 : Hid (s.1 ≤ 1 + St.totals x.body + Cs.totals (x.cases.take j)) := by
            show _ ≤ _
            have h1 := after_fst_le r (Cs.chks (x.cases.take j) (level + 1))
            have h2 := Cs.chks_le (x.cases.take j) (level + 1)
            have h3 := Hr1.out
            rw [← hs] at h1
            omega
          have Hs2 : Hid (s.2 = 0 → level ≤ 32) := fun h => Hr2.out (after_zero2 (by rw [← hs]; exact h))
          have HS9 := Lib.hid (HS8.out.oth hO r10 (by omega))
          obtain ⟨i0, i1, i2, i3, i4, i5, i6, i7, i8, i9, i10, i11, i12, i13⟩ := HS9.out
          simp only [Nat.zero_add] at i12 i13
          clear i0 i1 i2 i3 i4 i5 i6 i7 i8 i9 i10 i11 hg2 hs hC hO hw8
          by_cases hj2 : j < nc
          · obtain ⟨y, hy⟩ : ∃ y, x.cases[j]? = some y := ⟨_, List.getElem?_eq_getElem (by rw [← Hna.out.2.2.2.2]; exact hj2)⟩
            obtain ⟨bc, oc, rfl, hbc, hPc⟩ := Hy.out.2.2.2.2.1.at (i := j) hj2
            have hcs := (hPc y hy).later HBw.out hbc
            obtain ⟨hsb, hib⟩ := Hy.out.2.2.2.2.2 j y hy
            obtain ⟨ay, cy, hvy, -⟩ := hsb.form
            obtain ⟨ny, hny⟩ : ∃ n, n = y.body.length := ⟨_, rfl⟩
            rw [hvy, ← hny] at hcs hib
            obtain ⟨j0, j1⟩ := hcs
            have r0 := block_lt_of_cell j0
            have Hbound : Hid (0 ≤ n + (s.1 : Int) ∧ n + (s.1 : Int) + (St.totals y.body : Int) ≤ 1000000) := by
              have h1 := Hn1.out
              have h2 := Hxt.out
              have h3 := Hs1.out
              have h5 := Cs.totals_take hy
              have h6 := Cs.totals_le (l := x.cases) (j + 1)
              have h7 := Cs.total_eq y
              constructor <;> omega
            have HD1 := Lib.hid (And.intro hib hy)
            clear hPc hy hib hsb hvy hny i12
            go_wp2_with fail
            refine (HD1.out.1 wr c (n + (s.1 : Int)) s.2 (level + 1) HBw.out hcb HC.out Hbound.out.1 Hbound.out.2 (by omega) (by omega) (fun h => by have := Hs2.out h; omega)).mono ?_
            rintro e w9 ⟨rfl, hK9, hO9⟩
            have HK9 := Lib.hid (And.intro hK9.after hO9)
            clear hK9 hO9 j0 j1 i13
            go_wp2_with fail
            go_roundg (nc - (j + 1))
            case measure => have := HG2.out; omega
            case rel =>
              have h := HK9.out.1
              rw [Hs.out, after_assoc, ← Cs.chk_eq, ← Cs.chks_take HD1.out.2] at h
              exact ⟨j + 1, rfl, by go_num, hj2, h, HOj.out.trans HK9.out.2⟩
          · obtain rfl : nc = j := by omega
            have Hct : Hid (x.cases.take nc = x.cases) := List.take_of_length_le (by rw [← Hna.out.2.2.2.2]; exact Nat.le_refl _)
            have Hbound : Hid (0 ≤ n + (s.1 : Int) ∧ n + (s.1 : Int) + (St.totals x.els : Int) ≤ 1000000) := by
              have h1 := Hn1.out
              have h2 := Hxt.out
              have h3 := Hs1.out
              have h6 := Cs.totals_le (l := x.cases) nc
              constructor <;> omega
            clear hj2
            go_wp2_with fail
            refine (Hy.out.2.2.2.1 wr c (n + (s.1 : Int)) s.2 (level + 1) HBw.out hcb HC.out Hbound.out.1 Hbound.out.2 (by omega) (by omega) (fun h => by have := Hs2.out h; omega)).mono ?_
            rintro e w9 ⟨rfl, hK9, hO9⟩
            have HK9 := Lib.hid (And.intro hK9.after hO9)
            clear hK9 hO9 i12 i13
            go_wp2_with fail
            refine bodyPost_end (results_none rfl _ _ _) rfl ?_
            have h := HK9.out.1
            rw [Hs.out, Hct.out, after_assoc, ← Hchk2.out] at h
            exact ⟨rfl, h, HO9.out.trans HK9.out.2⟩
set_option maxRecDepth 100000 in
set_option maxHeartbeats 8000000 in
theorem rchks_any (l : List St) (v : Value) (w0 : World) (h : StsIn w0 l v) : RChkOk w0 l v := by
  induction h with
  | mk l v va vb vd ve vc vk h ha hb hd he hc hk ihd ihe ihk =>
  intro W c n0 e0 level hB hcb hK hn0 hn1 hl0 hl1 hl2
  obtain ⟨a, cap, rfl, hncap, hcap⟩ := h.form
  obtain ⟨n, hn⟩ : ∃ n, n = l.length := ⟨_, rfl⟩
  have Hn := Lib.hid hn
  have Hn1 := Lib.hid hn1
  have Hl2 := Lib.hid hl2
  have Hrow : Hid (RowOf w0 (.slice a n cap) l.length 14 (fun b o i => ∀ x, l[i]? = some x → StAt w0 b o x (va i) (vb i) (vd i) (ve i) (vc i))) := by rw [hn]; exact h
  have Hih := Lib.hid (And.intro ihd (And.intro ihe ihk))
  have Hf := Lib.hid (And.intro ha (And.intro hb (And.intro hd (And.intro he (And.intro hc hk)))))
  have HB := Lib.hid hB
  have HK := Lib.hid hK
  rw [← hn]
  rw [← hn] at hncap
  have hn62 : n ≤ 9223372036854775807 := by have : maxLen ≤ 9223372036854775807 := by decide
                                            omega
  clear h ha hb hd he hc hk ihd ihe ihk hn hB hK hn1 hl2
  go_enter Tryz.func46, Tryz.ntmps46
  go_wp2_with fail
  go_loopg [6] n (fun g iv wx => ∃ (i : Nat) (ei ni : Int), g = n - i ∧ iv = .int .i64 (i : Int) ∧ i ≤ n ∧ KAt wx c ni ei ∧ Oth (· = c) W wx ∧ ((ei = 0 ∧ e0 = 0 ∧ ni = n0 + ((St.chks (l.take i) level).1 : Int) ∧ (St.chks (l.take i) level).2 = 0) ∨ (ei ≠ 0 ∧ keepE e0 (St.chks l level).2 = ei ∧ n0 + goN e0 (St.chks l level).1 = ni)))
  case atStart =>
    refine ⟨0, e0, n0, rfl, rfl, Nat.zero_le _, HK.out, Oth.refl _ _, ?_⟩
    by_cases he : e0 = 0
    · exact .inl ⟨he, he, by simp [St.chks], by simp [St.chks]⟩
    · exact .inr ⟨he, keepE_no he _, by rw [goN_no he]; omega⟩
  case round =>
    obtain ⟨i, ei, ni, hg, rfl, hi, hK, hO, hp⟩ := hrel
    have HK2 := Lib.hid (And.intro hK (And.intro hO hp))
    have Hg := Lib.hid hg
    have hk1 := hK.c1
    have q1 := hK.lt
    have hB2 : Below w0.heap.size w0 wr := HB.out.trans (hO.below HB.out.size fun _ e => by omega)
    have HB2 := Lib.hid hB2
    clear hg hK hO hp
    by_cases hin : i < n
    · by_cases hez : ei = 0
      · subst hez
        obtain ⟨hp1, hp2, hp3⟩ : e0 = 0 ∧ ni = n0 + ((St.chks (l.take i) level).1 : Int) ∧ (St.chks (l.take i) level).2 = 0 := by
          rcases HK2.out.2.2 with h | h
          · exact h.2
          · exact absurd rfl h.1
        have Hp := Lib.hid (And.intro hp1 (And.intro hp2 hp3))
        have hl3 : level ≤ 99 := Hl2.out hp1
        obtain ⟨x, hx⟩ : ∃ x, l[i]? = some x := ⟨_, List.getElem?_eq_getElem (by rw [← Hn.out]; exact hin)⟩
        obtain ⟨b, off, rfl, hb, hP⟩ := Hrow.out.at (i := i) (by rw [← Hn.out]; exact hin)
        have hst := (hP x hx).later hB2 hb
        obtain ⟨fa, fb, fd, fe, fc, fk⟩ := Hf.out
        obtain ⟨aa, ca, hva, -⟩ := (fa i x hx).form
        obtain ⟨ab, cb, hvb, -⟩ := (fb i x hx).form
        obtain ⟨ad, cd, hvd, -⟩ := (fd i x hx).form
        obtain ⟨ae, ce, hve, -⟩ := (fe i x hx).form
        obtain ⟨ac, cc, hvc, hcc1, hcc2⟩ := (fc i x hx).form
        have fa' : RExprOk w0 x.a.args (va i) := rexpr_any _ _ _ (fa i x hx)
        have fb' : RExprOk w0 x.b.args (vb i) := rexpr_any _ _ _ (fb i x hx)
        have fd' : RChkOk w0 x.body (vd i) := Hih.out.1 i x hx
        have fe' : RChkOk w0 x.els (ve i) := Hih.out.2.1 i x hx
        have fc' := fc i x hx
        have fk' : ∀ (j : Nat) y, x.cases[j]? = some y → StsIn w0 y.body (vk i j) ∧ RChkOk w0 y.body (vk i j) := fun j y hy => ⟨fk i x j y hx hy, Hih.out.2.2 i x j y hx hy⟩
        obtain ⟨na, hna⟩ : ∃ n, n = x.a.args.length := ⟨_, rfl⟩
        obtain ⟨nb, hnb⟩ : ∃ n, n = x.b.args.length := ⟨_, rfl⟩
        obtain ⟨nd, hnd⟩ : ∃ n, n = x.body.length := ⟨_, rfl⟩
        obtain ⟨ne, hne⟩ : ∃ n, n = x.els.length := ⟨_, rfl⟩
        obtain ⟨nc, hnc⟩ : ∃ n, n = x.cases.length := ⟨_, rfl⟩
        rw [hva, hvb, hvd, hve, hvc, ← hna, ← hnb, ← hnd, ← hne, ← hnc] at hst
        rw [hva, ← hna] at fa'
        rw [hvb, ← hnb] at fb'
        rw [hvd, ← hnd] at fd'
        rw [hve, ← hne] at fe'
        rw [hvc, ← hnc] at fc'
        rw [← hnc] at hcc1
        have hnc62 : nc ≤ 9223372036854775807 := by have : maxLen ≤ 9223372036854775807 := by decide
                                                    omega
        have Hcall := Lib.hid (rstmt_row x aa ab ad ae ac na nb nd ne nc ca cb cd ce cc (vk i) w0 hna hnb hnd hne hnc hnc62 fa' fb' fd' fe' fc' fk' wr c ni level hB2 hcb HK2.out.1 (by omega)
          (by have h1 := Hn1.out; have h2 := St.chks_le (l.take i) level; have h3 := St.totals_take hx; have h4 := St.totals_le (l := l) (i + 1); omega) hl0 hl3)
        have Hx := Lib.hid hx
        obtain ⟨i0, i1, i2, i3, i4, i5, i6, i7, i8, i9, i10, i11, i12, i13⟩ := hst
        clear hB2 hP hx fa fb fd fe fc fk fa' fb' fd' fe' fc' fk' hna hnb hnd hne hnc hva hvb hvd hve hvc hcc1 hp1 hp2 hp3
        go_wp2_with fail
        refine Hcall.out.mono ?_
        rintro e w5 ⟨rfl, hK5, hO5⟩
        have H5 := Lib.hid (And.intro hK5 hO5)
        clear hK5 hO5 i0 i1 i2 i3 i4 i5 i6 i7 i8 i9 i10 i11 i12 i13 hk1 Hcall
        go_wp2_with fail
        go_roundg (n - (i + 1))
        case measure => have := Hg.out; omega
        case rel =>
          refine ⟨i + 1, (x.chk level).2, ni + ((x.chk level).1 : Int), rfl, by go_num, hin, H5.out.1, HK2.out.2.1.trans H5.out.2, ?_⟩
          by_cases hz : (x.chk level).2 = 0
          · have h := St.chks_next (level := level) Hx.out Hp.out.2.2
            exact .inl ⟨hz, Hp.out.1, by rw [h, Hp.out.2.1]; simp only; omega, by rw [h]; exact hz⟩
          · have h := St.chks_hit (level := level) Hx.out Hp.out.2.2 hz
            exact .inr ⟨hz, by rw [h, Hp.out.1, keepE_zero], by rw [h, Hp.out.1, goN_zero, Hp.out.2.1]; simp only; omega⟩
      · have hq : (ei == 0) = false := by simp [hez]
        have Hres : Hid (keepE e0 (St.chks l level).2 = ei ∧ n0 + goN e0 (St.chks l level).1 = ni) := by
          rcases HK2.out.2.2 with h | h
          · exact absurd h.1 hez
          · exact h.2
        clear hB2
        go_wp2_with fail
        refine bodyPost_end (results_none rfl _ _ _) rfl ?_
        exact ⟨rfl, by rw [Hres.out.1, Hres.out.2]; exact HK2.out.1, HK2.out.2.1⟩
    · obtain rfl : n = i := by omega
      have Hres : Hid (keepE e0 (St.chks l level).2 = ei ∧ n0 + goN e0 (St.chks l level).1 = ni) := by
        rcases HK2.out.2.2 with h | h
        · have ht : l.take n = l := List.take_of_length_le (by rw [← Hn.out]; exact Nat.le_refl _)
          rw [ht] at h
          exact ⟨by rw [h.2.1, keepE_zero, h.1, h.2.2.2], by rw [h.2.1, goN_zero, h.2.2.1]⟩
        · exact h.2
      clear hB2 hin hk1
      go_wp2_with fail
      refine bodyPost_end (results_none rfl _ _ _) rfl ?_
      exact ⟨rfl, by rw [Hres.out.1, Hres.out.2]; exact HK2.out.1, HK2.out.2.1⟩
end Go.Proofs.YtgcplcffejbniaaGreat

/- What is wrong with a program's thresholds and counts. -/
namespace Go.Proofs.YtgcplcffejbniaaGreat
open Go.RowKit

theorem IntsIn.row {w : World} {v : Value} {l : List Int} (h : IntsIn w v l) : RowOf w v l.length 1 (fun b o i => ∀ x, l[i]? = some x → w.cell? ⟨b, o, none⟩ = some (.int .i64 x)) := by
  obtain ⟨_, a, cap, rfl, h2, h3, h4, h5⟩ := h
  exact ⟨a, cap, rfl, h2, h3, h4, fun h0 => by
    obtain ⟨b, off, e, hb, hc⟩ := h5 h0
    exact ⟨b, off, e, hb, fun i _ x hx => by rw [Nat.mul_one]; exact hc i _ (by simp [intVs, hx])⟩⟩
def leastB (l : List Int) : Bool := l.any fun y => y == leastI
theorem leastB_take {l : List Int} {i : Nat} {y : Int} (h : l[i]? = some y) : leastB (l.take (i + 1)) = (leastB (l.take i) || (y == leastI)) := by rw [take_next h]; simp [leastB]
theorem leastB_hit {l : List Int} {i : Nat} {y : Int} (h : l[i]? = some y) (hy : (y == leastI) = true) : leastB l = true := by
  unfold leastB
  rw [List.any_eq_true]
  exact ⟨y, List.mem_of_getElem? h, hy⟩
def riseB : List Int → Bool
  | a :: b :: l => decide (a < b) && riseB (b :: l)
  | _ => true
theorem riseB_all {l : List Int} (h : ∀ (i : Nat) a b, l[i]? = some a → l[i + 1]? = some b → a < b) : riseB l = true := by
  induction l with
  | nil => rfl
  | cons a l ih =>
    cases l with
    | nil => rfl
    | cons b l =>
      simp only [riseB, Bool.and_eq_true, decide_eq_true_eq]
      exact ⟨h 0 a b rfl rfl, ih fun i x y hx hy => h (i + 1) x y (by simpa using hx) (by simpa using hy)⟩
theorem riseB_no {l : List Int} {i : Nat} {a b : Int} (ha : l[i]? = some a) (hb : l[i + 1]? = some b) (hn : ¬ a < b) : riseB l = false := by
  induction l generalizing i with
  | nil => simp at ha
  | cons x l ih =>
    cases l with
    | nil => simp at hb
    | cons y l =>
      cases i with
      | zero =>
        simp at ha hb
        subst ha; subst hb
        simp [riseB, hn]
      | succ i =>
        have := ih (i := i) (by simpa using ha) (by simpa using hb)
        simp [riseB, this]
/-- What is wrong ahead of the functions. -/
def Pg.headErr (p : Pg) : Int := if 16 < p.widen.length then 3 else if leastB p.widen = true then 1 else if riseB p.widen = false then 66 else if 32 < p.funcs.length ∨ 4096 < upto (Fn.count p.funcs) then 3 else 0
set_option maxHeartbeats 1000000 in
theorem indexI_any (l : List Int) (v : Value) (W : World) (h : IntsIn W v l) :
    Calls Tryz.prog 77 #[v, .int .i64 (-9223372036854775808)] W (fun e W' => ∃ r : Int, e = .returned (.int .i64 r) ∧ decide (0 ≤ r) = leastB l ∧ W = W') := by
  have h := h.row
  obtain ⟨a, cap, rfl, hncap, hcap⟩ := h.form
  obtain ⟨n, hn⟩ : ∃ n, n = l.length := ⟨_, rfl⟩
  have Hn := Lib.hid hn
  have Hrow : Hid (RowOf W (.slice a n cap) l.length 1 (fun b o i => ∀ x, l[i]? = some x → W.cell? ⟨b, o, none⟩ = some (.int .i64 x))) := by rw [hn]; exact h
  rw [← hn]
  rw [← hn] at hncap
  have hn62 : n ≤ 9223372036854775807 := by have : maxLen ≤ 9223372036854775807 := by decide
                                            omega
  clear h hn
  go_enter Tryz.func77, Tryz.ntmps77
  go_wp2_with fail
  go_loopg [5, 8] n (fun g _ iv wx => ∃ i : Nat, g = n - i ∧ iv = .int .i64 (i : Int) ∧ i ≤ n ∧ leastB (l.take i) = false ∧ wx = W)
  case atStart => exact ⟨0, rfl, rfl, Nat.zero_le _, rfl, rfl⟩
  case round =>
    obtain ⟨i, hg, rfl, hi, hp, rfl⟩ := hrel
    have HK := Lib.hid hp
    have Hg := Lib.hid hg
    clear hp hg
    by_cases hin : i < n
    · obtain ⟨y, hy⟩ : ∃ y, l[i]? = some y := ⟨_, List.getElem?_eq_getElem (by rw [← Hn.out]; exact hin)⟩
      obtain ⟨b, off, rfl, hb, hP⟩ := Hrow.out.at (i := i) (by rw [← Hn.out]; exact hin)
      have hcs := hP y hy
      have Hy := Lib.hid hy
      simp only [Nat.mul_one] at hcs
      clear hy hP
      by_cases hz : y = -9223372036854775808
      · have Hz : Hid ((y == leastI) = true) := by show _ = _; simp [leastI, hz]
        subst hz
        go_wp2_with fail
        go_ret
        exact ⟨i, rfl, by rw [leastB_hit Hy.out Hz.out]; simp, rfl⟩
      · have Hz : Hid ((y == leastI) = false) := by show _ = _; simp [leastI, hz]
        have hq : (-9223372036854775808 == y) = false := by simp; omega
        have hq2 : (y == -9223372036854775808) = false := by simp [hz]
        go_wp2_with fail
        go_roundg (n - (i + 1))
        case measure => have := Hg.out; omega
        case rel => exact ⟨i + 1, rfl, by go_num, hin, by rw [leastB_take Hy.out, HK.out, Hz.out]; rfl, rfl⟩
    · obtain rfl : n = i := by omega
      have Hres : Hid (leastB l = false) := by
        show _ = _
        have h := HK.out
        rw [List.take_of_length_le (by rw [← Hn.out]; exact Nat.le_refl _)] at h
        exact h
      clear hin
      go_wp2_with fail
      go_ret
      exact ⟨-1, rfl, by rw [Hres.out]; rfl, rfl⟩
theorem containsI_any (l : List Int) (v : Value) (W : World) (h : IntsIn W v l) :
    Calls Tryz.prog 60 #[v, .int .i64 (-9223372036854775808)] W (fun e W' => e = .returned (.bool (leastB l)) ∧ W = W') := by
  have H := Lib.hid h
  obtain ⟨-, a, cap, rfl, -⟩ := h
  go_enter Tryz.func60, Tryz.ntmps60
  go_wp2_with fail
  refine (indexI_any l _ W H.out).mono ?_
  rintro e w2 ⟨r, rfl, hr, hb⟩
  rw [← hb]
  have Hr := Lib.hid hr
  clear hr hb
  by_cases h0 : 0 ≤ r
  · have hq : Hid (leastB l = true) := by show _ = _; rw [← Hr.out]; exact decide_eq_true h0
    go_wp2_with fail
    go_ret
    exact ⟨by rw [hq.out]; simp, rfl⟩
  · have hq : Hid (leastB l = false) := by show _ = _; rw [← Hr.out]; exact decide_eq_false h0
    go_wp2_with fail
    go_ret
    exact ⟨by rw [hq.out]; simp [h0], rfl⟩
end Go.Proofs.YtgcplcffejbniaaGreat

/- R2's look at a program's thresholds and counts. -/
namespace Go.Proofs.YtgcplcffejbniaaGreat
open Go.RowKit

set_option maxRecDepth 100000 in
set_option maxHeartbeats 2000000 in
theorem rhead_any (p : Pg) (vw vf : Value) (vp vb : Nat → Value) (W : World) (h : PgIn W p vw vf vp vb) : Calls Tryz.prog 44 #[pgV vw vf] W (Gives (.int .i64 p.headErr) W) := by
  have HP := Lib.hid h
  obtain ⟨hw, hr, -, -⟩ := h
  have hwr := hw.row
  obtain ⟨aw, cw, rfl, hwc, hwc2⟩ := hwr.form
  obtain ⟨a, cap, rfl, hncap, hcap⟩ := hr.form
  obtain ⟨n, hn⟩ : ∃ n, n = p.funcs.length := ⟨_, rfl⟩
  obtain ⟨m, hm⟩ : ∃ m, m = p.widen.length := ⟨_, rfl⟩
  have hn62 : n ≤ 9223372036854775807 := by have : maxLen ≤ 9223372036854775807 := by decide
                                            omega
  have hm62 : m ≤ 9223372036854775807 := by have : maxLen ≤ 9223372036854775807 := by decide
                                            omega
  have Hl := Lib.hid (And.intro hm hn)
  have Hrow : Hid (RowOf W (.slice aw m cw) p.widen.length 1 (fun b o i => ∀ x, p.widen[i]? = some x → W.cell? ⟨b, o, none⟩ = some (.int .i64 x))) := by rw [hm]; exact hwr
  rw [← hn, ← hm] at HP
  rw [← hn, ← hm]
  rw [← hm] at hwc
  rw [← hn] at hncap
  obtain ⟨W1, hW1⟩ : ∃ W1, W1 = W.alloc (.cells #[.slice aw m cw, .slice a n cap] 25) := ⟨_, rfl⟩
  have hs1 : W1.heap.size = W.heap.size + 1 := by rw [hW1]; simp
  have hb1 : Below W.heap.size W W1 := by rw [hW1]; exact (Below.refl _ _).alloc (Nat.le_refl _) _
  have c0 : W1.cell? ⟨W.heap.size, 0, none⟩ = some (.slice aw m cw) := by rw [hW1]; exact World.cell?_alloc_at _ _ _ _ rfl
  have c1 : W1.cell? ⟨W.heap.size, 1, none⟩ = some (.slice a n cap) := by rw [hW1]; exact World.cell?_alloc_at _ _ _ _ rfl
  have H1 := Lib.hid (And.intro hb1 (And.intro c0 (And.intro c1 hs1)))
  have HW1 := Lib.hid hW1
  obtain ⟨B, hB⟩ : ∃ B, B = W.heap.size := ⟨_, rfl⟩
  rw [← hB] at c0 c1
  have HB := Lib.hid hB
  unfold pgV
  clear hw hr hwr hn hm hs1 hb1 hW1 hB
  go_enter Tryz.func44, Tryz.ntmps44
  go_upto_region 1 with (fail)
  rw [← HW1.out, ← HB.out]
  by_cases h16 : 16 < m
  · have Hres : Hid (p.headErr = 3) := by show _ = _; unfold Pg.headErr; rw [if_pos (by rw [← Hl.out.1]; exact h16)]
    go_wp2_with fail
    go_ret
    exact ⟨by rw [Hres.out]; rfl, H1.out.1⟩
  · have H16 : Hid (¬ 16 < p.widen.length) := by show ¬ _; rw [← Hl.out.1]; exact h16
    have hm16 : m ≤ 16 := by omega
    clear h16
    go_wp2_with fail
    go_loopg [3] m (fun g iv wx => ∃ i : Nat, g = m - i ∧ iv = .int .i64 (i : Int) ∧ i ≤ m ∧ leastB (p.widen.take i) = false ∧ wx = W1)
    case atStart => exact ⟨0, rfl, rfl, Nat.zero_le _, rfl, rfl⟩
    case round =>
      obtain ⟨i, hg, rfl, hi, hp, rfl⟩ := hrel
      have HK := Lib.hid hp
      have Hg := Lib.hid hg
      clear hp hg
      by_cases hin : i < m
      · obtain ⟨y, hy⟩ : ∃ y, p.widen[i]? = some y := ⟨_, List.getElem?_eq_getElem (by rw [← Hl.out.1]; exact hin)⟩
        obtain ⟨b, off, rfl, hb, hP⟩ := Hrow.out.at (i := i) (by rw [← Hl.out.1]; exact hin)
        have hcs := (H1.out.1.cell (p := ⟨b, off + i * 1, none⟩) hb).trans (hP y hy)
        have Hy := Lib.hid hy
        simp only [Nat.mul_one] at hcs
        clear hy hP
        by_cases hz : y = -9223372036854775808
        · have Hz : Hid ((y == leastI) = true) := by show _ = _; simp [leastI, hz]
          have Hres : Hid (p.headErr = 1) := by show _ = _; unfold Pg.headErr; rw [if_neg H16.out, if_pos (leastB_hit Hy.out Hz.out)]
          subst hz
          go_wp2_with fail
          go_ret
          exact ⟨by rw [Hres.out]; rfl, H1.out.1⟩
        · have Hz : Hid ((y == leastI) = false) := by show _ = _; simp [leastI, hz]
          have hq2 : (y == -9223372036854775808) = false := by simp [hz]
          go_wp2_with fail
          go_roundg (m - (i + 1))
          case measure => have := Hg.out; omega
          case rel => exact ⟨i + 1, rfl, by go_num, hin, by rw [leastB_take Hy.out, HK.out, Hz.out]; rfl, rfl⟩
      · obtain rfl : m = i := by omega
        have Hleast : Hid (leastB p.widen = false) := by
          show _ = _
          have h := HK.out
          rw [List.take_of_length_le (by rw [← Hl.out.1]; exact Nat.le_refl _)] at h
          exact h
        clear hin
        obtain ⟨V, hV⟩ : ∃ V : World, V = wr := ⟨_, rfl⟩
        subst hV
        go_wp2_with fail
        clear c0 c1
        go_loopg [4] m (fun g iv wx => ∃ j : Nat, g = m - j ∧ iv = .int .i64 ((j + 1 : Nat) : Int) ∧ j ≤ m ∧ (∀ (k : Nat) a b, k < j → p.widen[k]? = some a → p.widen[k + 1]? = some b → a < b) ∧ Below V.heap.size V wx)
        case atStart => exact ⟨0, rfl, rfl, Nat.zero_le _, fun k a b h => by omega, Below.refl _ _⟩
        case round =>
          obtain ⟨j, hg, rfl, hj, hp, hO⟩ := hrel
          have HK := Lib.hid (And.intro hp hO)
          have Hg := Lib.hid hg
          have q0 := H1.out.2.2.2
          have c0 := (hO.cell (p := ⟨W.heap.size, 0, none⟩) (by show W.heap.size < _; omega)).trans H1.out.2.1
          have c1 := (hO.cell (p := ⟨W.heap.size, 1, none⟩) (by show W.heap.size < _; omega)).trans H1.out.2.2.1
          rw [← HB.out] at c0 c1
          clear hp hg q0
          by_cases hjn : j + 1 < m
          · obtain ⟨y, hy⟩ : ∃ y, p.widen[j]? = some y := ⟨_, List.getElem?_eq_getElem (by rw [← Hl.out.1]; omega)⟩
            obtain ⟨z, hz⟩ : ∃ y, p.widen[j + 1]? = some y := ⟨_, List.getElem?_eq_getElem (by rw [← Hl.out.1]; omega)⟩
            obtain ⟨b, off, rfl, hb, hP⟩ := Hrow.out.at (i := j) (by rw [← Hl.out.1]; omega)
            obtain ⟨b', off', e', hb', hP'⟩ := Hrow.out.at (i := j + 1) (by rw [← Hl.out.1]; omega)
            cases e'
            have hW := H1.out.1.trans (hO.mono H1.out.1.size)
            have hy1 := (hW.cell (p := ⟨b, off + j * 1, none⟩) hb).trans (hP y hy)
            have hz1 := (hW.cell (p := ⟨b, off + (j + 1) * 1, none⟩) hb).trans (hP' z hz)
            simp only [Nat.mul_one] at hy1 hz1
            have Hyz := Lib.hid (And.intro hy hz)
            have HW := Lib.hid hW
            clear hy hz hP hP' hW hO
            by_cases hlt : y < z
            · have e1 : ¬ z ≤ y := by omega
              go_wp2_with (go_quiet (fail))
              go_roundg (m - (j + 1))
              case measure => have := Hg.out; omega
              case rel => exact ⟨j + 1, rfl, by go_num, by omega, fun k a b hk ha hb => by
                  by_cases e : k = j
                  · subst e
                    rw [Hyz.out.1] at ha
                    rw [Hyz.out.2] at hb
                    cases ha; cases hb; exact hlt
                  · exact HK.out.1 k a b (by omega) ha hb, below_drewN HK.out.2 _⟩
            · have e1 : z ≤ y := by omega
              have Hres : Hid (p.headErr = 66) := by show _ = _; unfold Pg.headErr; rw [if_neg H16.out, if_neg (by rw [Hleast.out]; decide), if_pos (riseB_no Hyz.out.1 Hyz.out.2 hlt)]
              go_wp2_with (go_quiet (fail))
              go_ret
              exact ⟨by rw [Hres.out]; rfl, below_drewN HW.out _⟩
          · have Hrise : Hid (riseB p.widen = true) := riseB_all fun k a b ha hb => HK.out.1 k a b (by have := (List.getElem?_eq_some_iff.1 hb).1; have := Hl.out.1; omega) ha hb
            have HW : Hid (Below W.heap.size W wr) := H1.out.1.trans (hO.mono H1.out.1.size)
            have Hh : Hid (p.headErr = if 32 < n ∨ 4096 < upto (Fn.count p.funcs) then 3 else 0) := by
              show _ = _
              unfold Pg.headErr
              rw [if_neg H16.out, if_neg (by rw [Hleast.out]; decide), if_neg (by rw [Hrise.out]; decide), ← Hl.out.2]
            clear hO
            by_cases h32 : 32 < n
            · have Hres : Hid (p.headErr = 3) := by show _ = _; rw [Hh.out, if_pos (.inl h32)]
              go_wp2_with fail
              go_ret
              exact ⟨by rw [Hres.out]; rfl, HW.out⟩
            · have h32' : n ≤ 32 := by omega
              have hq : decide (32 < (n : Int)) = false := decide_eq_false (by omega)
              have H32 := Lib.hid h32
              clear h32
              go_wp2_with fail
              refine (rnodes_any p (.slice aw m cw) (.slice a n cap) vp vb _ (PgIn.later HP.out HW.out)).mono ?_
              rintro e w5 ⟨rfl, hb5⟩
              have HW5 := Lib.hid (HW.out.trans (hb5.mono HW.out.size))
              obtain ⟨nd, hnd⟩ : ∃ z, z = upto (Fn.count p.funcs) := ⟨_, rfl⟩
              rw [← hnd] at Hh ⊢
              have hle : nd ≤ 4097 := by rw [hnd]; exact upto_le _
              clear hb5 c0 c1 hnd
              by_cases h96 : 4096 < nd
              · have Hres : Hid (p.headErr = 3) := by show _ = _; rw [Hh.out, if_pos (.inr h96)]
                go_wp2_with fail
                go_ret
                exact ⟨by rw [Hres.out]; rfl, HW5.out⟩
              · have Hres : Hid (p.headErr = 0) := by show _ = _; rw [Hh.out, if_neg (fun h => h.elim H32.out h96)]
                go_wp2_with fail
                go_ret
                exact ⟨by rw [Hres.out]; rfl, HW5.out⟩
end Go.Proofs.YtgcplcffejbniaaGreat

namespace Go.Proofs.YtgcplcffejbniaaGreat
open Go.RowKit

abbrev Flt := Int × Int × Int
def fltV (t : Flt) : Value := .agg #[.int .i64 t.1, .int .i64 t.2.1, .int .i64 t.2.2]
def Fn.fault (f : Fn) (i : Nat) : Flt := if f.face ≠ 0 then (f.face, (i : Int), 0) else if (St.chks f.body 1).2 ≠ 0 then ((St.chks f.body 1).2, (i : Int), ((St.chks f.body 1).1 : Int)) else (0, 0, 0)
def Fn.faults : List Fn → Nat → Flt
  | [], _ => (0, 0, 0)
  | f :: l, i => if (f.fault i).1 ≠ 0 then f.fault i else Fn.faults l (i + 1)
/-- What is wrong first with a program's form. -/
def Pg.fault (p : Pg) : Flt := if p.headErr ≠ 0 then (p.headErr, 0, 0) else Fn.faults p.funcs 0
theorem Fn.faults_hit {l : List Fn} {i k : Nat} {x : Fn} (h : l[i]? = some x) (hn : ∀ j y, j < i → l[j]? = some y → (y.fault (k + j)).1 = 0) (he : (x.fault (k + i)).1 ≠ 0) : Fn.faults l k = x.fault (k + i) := by
  induction l generalizing i k with
  | nil => simp at h
  | cons y l ih =>
    cases i with
    | zero => simp at h; subst h; simp only [Fn.faults, Nat.add_zero]; exact if_pos he
    | succ i =>
      have h0 := hn 0 y (by omega) rfl
      simp only [Fn.faults, Nat.add_zero] at h0 ⊢
      rw [if_neg (by rw [h0]; decide)]
      have := ih (i := i) (k := k + 1) (by simpa using h) (fun j z hj hz => by rw [Nat.add_assoc, Nat.add_comm 1 j]; exact hn (j + 1) z (by omega) (by simpa using hz)) (by rw [Nat.add_assoc, Nat.add_comm 1 i]; exact he)
      rw [this, Nat.add_assoc, Nat.add_comm 1 i]
theorem Fn.faults_none {l : List Fn} {k : Nat} (hn : ∀ (j : Nat) y, l[j]? = some y → (y.fault (k + j)).1 = 0) : Fn.faults l k = (0, 0, 0) := by
  induction l generalizing k with
  | nil => rfl
  | cons y l ih =>
    have h0 := hn 0 y rfl
    simp only [Nat.add_zero] at h0
    simp only [Fn.faults]
    rw [if_neg (by rw [h0]; decide)]
    exact ih fun j z hz => by rw [Nat.add_assoc, Nat.add_comm 1 j]; exact hn (j + 1) z (by simpa using hz)
theorem Pg.head_ok {p : Pg} (h : p.headErr = 0) : p.funcs.length ≤ 32 ∧ Fn.count p.funcs ≤ 4096 := by
  unfold Pg.headErr at h
  split at h
  · omega
  split at h
  · omega
  split at h
  · omega
  split at h
  · omega
  rename_i hn
  unfold upto at hn
  constructor <;> omega
/-- A Check's own blocks: its program, its answer. -/
structure CkAt (w : World) (B : Nat) (vw vf : Value) : Prop where
  c0 : w.cell? ⟨B, 0, none⟩ = some vw
  c1 : w.cell? ⟨B, 1, none⟩ = some vf
  r0 : w.cell? ⟨B + 1, 0, none⟩ = some (.int .i64 0)
  r1 : w.cell? ⟨B + 1, 1, none⟩ = some (.int .i64 0)
  r2 : w.cell? ⟨B + 1, 2, none⟩ = some (.int .i64 0)
  z0 : w.frozen? ⟨B + 1, 0, none⟩ = false
  z1 : w.frozen? ⟨B + 1, 1, none⟩ = false
  z2 : w.frozen? ⟨B + 1, 2, none⟩ = false
theorem CkAt.later {w w' : World} {B : Nat} {vw vf : Value} (h : CkAt w B vw vf) (hb : Below w.heap.size w w') : CkAt w' B vw vf :=
  have q1 := block_lt_of_cell h.c0
  have q2 := block_lt_of_cell h.r0
  ⟨(hb.cell (p := ⟨B, 0, none⟩) q1).trans h.c0, (hb.cell (p := ⟨B, 1, none⟩) q1).trans h.c1, (hb.cell (p := ⟨B + 1, 0, none⟩) q2).trans h.r0, (hb.cell (p := ⟨B + 1, 1, none⟩) q2).trans h.r1, (hb.cell (p := ⟨B + 1, 2, none⟩) q2).trans h.r2,
    (hb.frozen (p := ⟨B + 1, 0, none⟩) q2).trans h.z0, (hb.frozen (p := ⟨B + 1, 1, none⟩) q2).trans h.z1, (hb.frozen (p := ⟨B + 1, 2, none⟩) q2).trans h.z2⟩
/-- An answer is written. -/
theorem CkAt.answer {w : World} {B : Nat} {vw vf : Value} (h : CkAt w B vw vf) (t : Flt) : ∀ w9, w9 = ((w.setCell ⟨B + 1, 0, none⟩ (.int .i64 t.1)).setCell ⟨B + 1, 1, none⟩ (.int .i64 t.2.1)).setCell ⟨B + 1, 2, none⟩ (.int .i64 t.2.2) →
    w9.cell? ⟨B + 1, 0, none⟩ = some (.int .i64 t.1) ∧ w9.cell? ⟨B + 1, 1, none⟩ = some (.int .i64 t.2.1) ∧ w9.cell? ⟨B + 1, 2, none⟩ = some (.int .i64 t.2.2) ∧ Oth (· = B + 1) w w9 := by
  rintro w9 rfl
  refine ⟨?_, ?_, World.cell?_setCell_same' _ _ _ ?_, (((Oth.refl (· = B + 1) w).set (p := ⟨B + 1, 0, none⟩) rfl _).set (p := ⟨B + 1, 1, none⟩) rfl _).set (p := ⟨B + 1, 2, none⟩) rfl _⟩
  · rw [World.cell?_setCell_other _ _ _ _ (by simp), World.cell?_setCell_other _ _ _ _ (by simp)]
    exact World.cell?_setCell_same' _ _ _ (by rw [h.r0]; rfl)
  · rw [World.cell?_setCell_other _ _ _ _ (by simp)]
    exact World.cell?_setCell_same' _ _ _ (by rw [World.cell?_setCell_other _ _ _ _ (by simp), h.r1]; rfl)
  · rw [World.cell?_setCell_other _ _ _ _ (by simp), World.cell?_setCell_other _ _ _ _ (by simp), h.r2]; rfl
set_option maxRecDepth 100000 in
set_option maxHeartbeats 2000000 in
theorem rcheck_any (p : Pg) (vw vf : Value) (vp vb : Nat → Value) (W : World) (h : PgIn W p vw vf vp vb) : Calls Tryz.prog 27 #[pgV vw vf] W (Gives (fltV p.fault) W) := by
  have HP := Lib.hid h
  obtain ⟨hw, hr, hpp, hbb⟩ := h
  obtain ⟨aw, cw, rfl, hwc, hwc2⟩ := hw.row.form
  obtain ⟨a, cap, rfl, hncap, hcap⟩ := hr.form
  obtain ⟨n, hn⟩ : ∃ n, n = p.funcs.length := ⟨_, rfl⟩
  obtain ⟨m, hm⟩ : ∃ m, m = p.widen.length := ⟨_, rfl⟩
  have hn62 : n ≤ 9223372036854775807 := by have : maxLen ≤ 9223372036854775807 := by decide
                                            omega
  have Hl := Lib.hid (And.intro hm hn)
  have Hf := Lib.hid (And.intro hpp hbb)
  have Hrow : Hid (RowOf W (.slice a n cap) p.funcs.length 3 (fun b o i => ∀ x, p.funcs[i]? = some x → FnCells W b o x (vp i) (vb i))) := by rw [hn]; exact hr
  rw [← hn, ← hm] at HP
  rw [← hn, ← hm]
  rw [← hn] at hncap
  obtain ⟨W1, hW1⟩ : ∃ W1, W1 = (W.alloc (.cells #[.slice aw m cw, .slice a n cap] 25)).alloc (.cells #[.int .i64 0, .int .i64 0, .int .i64 0] 29) := ⟨_, rfl⟩
  have hs1 : W1.heap.size = W.heap.size + 2 := by rw [hW1]; simp
  have hb1 : Below W.heap.size W W1 := by rw [hW1]; exact ((Below.refl _ _).alloc (Nat.le_refl _) _).alloc (by (try simp only [World.size_alloc]); (try simp only [size_set]); omega) _
  have hk1 : CkAt W1 W.heap.size (.slice aw m cw) (.slice a n cap) := by
    have q : (W.alloc (.cells #[.slice aw m cw, .slice a n cap] 25)).heap.size = W.heap.size + 1 := by simp
    have k : ∀ j, (((W.alloc (.cells #[.slice aw m cw, .slice a n cap] 25)).alloc (.cells #[.int .i64 0, .int .i64 0, .int .i64 0] 29)).cell? ⟨W.heap.size, j, none⟩) = (W.alloc (.cells #[.slice aw m cw, .slice a n cap] 25)).cell? ⟨W.heap.size, j, none⟩ :=
      fun j => ((Below.refl _ _).alloc (Nat.le_refl _) _).cell (p := ⟨W.heap.size, j, none⟩) (by show W.heap.size < _; omega)
    rw [hW1]
    exact ⟨(k 0).trans (World.cell?_alloc_at _ _ _ _ rfl), (k 1).trans (World.cell?_alloc_at _ _ _ _ rfl), World.cell?_alloc_at _ _ _ _ (by rw [q]), World.cell?_alloc_at _ _ _ _ (by rw [q]), World.cell?_alloc_at _ _ _ _ (by rw [q]),
      World.frozen?_alloc_at _ _ _ _ (by rw [q]), World.frozen?_alloc_at _ _ _ _ (by rw [q]), World.frozen?_alloc_at _ _ _ _ (by rw [q])⟩
  have HW1 := Lib.hid hW1
  obtain ⟨B, hB⟩ : ∃ B, B = W.heap.size := ⟨_, rfl⟩
  have hB0 : B = W.heap.size := hB
  have HB := Lib.hid hB
  unfold pgV
  clear hw hr hpp hbb hn hm hW1 hB
  go_enter Tryz.func27, Tryz.ntmps27
  go_upto_region 1 with (fail)
  rw [← HW1.out, ← HB.out]
  rw [← hB0] at hk1
  clear hB0
  have H1 := Lib.hid (And.intro hb1 (And.intro hk1 hs1))
  clear hb1 hs1
  obtain ⟨c0, c1, r0, r1, r2, z0, z1, z2⟩ := hk1
  go_wp2_with fail
  refine (rhead_any p (.slice aw m cw) (.slice a n cap) vp vb W1 (PgIn.later HP.out H1.out.1)).mono ?_
  rintro e w2 ⟨rfl, hb2⟩
  have HK2 := Lib.hid (H1.out.2.1.later hb2)
  have HB2 := Lib.hid (H1.out.1.trans (hb2.mono H1.out.1.size))
  clear hb2 c0 c1 r0 r1 r2 z0 z1 z2
  obtain ⟨c0, c1, r0, r1, r2, z0, z1, z2⟩ := HK2.out
  have q2 := block_lt_of_cell r0
  obtain ⟨he, hhe⟩ : ∃ z, z = p.headErr := ⟨_, rfl⟩
  rw [← hhe]
  have Hhe := Lib.hid hhe
  clear hhe
  by_cases h0 : he = 0
  · have Hok : Hid (p.funcs.length ≤ 32 ∧ Fn.count p.funcs ≤ 4096) := Pg.head_ok (Hhe.out.symm.trans h0)
    have Hfl : Hid (p.fault = Fn.faults p.funcs 0) := by show _ = _; unfold Pg.fault; rw [← Hhe.out, if_neg (by rw [h0]; decide)]
    subst h0
    go_wp2_with fail
    clear c0 c1 r0 r1 r2 z0 z1 z2
    go_loopg [4] n (fun g iv wx => ∃ i : Nat, g = n - i ∧ iv = .int .i64 (i : Int) ∧ i ≤ n ∧ (∀ j y, j < i → p.funcs[j]? = some y → (y.fault (0 + j)).1 = 0) ∧ CkAt wx B (.slice aw m cw) (.slice a n cap) ∧ Below W.heap.size W wx)
    case atStart => exact ⟨0, rfl, rfl, Nat.zero_le _, fun j y h => by omega, HK2.out, HB2.out⟩
    case round =>
      obtain ⟨i, hg, rfl, hi, hp, hC, hB⟩ := hrel
      have HK := Lib.hid (And.intro hp (And.intro hC hB))
      have Hg := Lib.hid hg
      obtain ⟨c0, c1, r0, r1, r2, z0, z1, z2⟩ := hC
      have q3 := block_lt_of_cell r0
      clear hp hg
      by_cases hin : i < n
      · obtain ⟨x, hx⟩ : ∃ x, p.funcs[i]? = some x := ⟨_, List.getElem?_eq_getElem (by rw [← Hl.out.2]; exact hin)⟩
        obtain ⟨b, off, rfl, hb, hP⟩ := Hrow.out.at (i := i) (by rw [← Hl.out.2]; exact hin)
        have hfc := (hP x hx).later hB hb
        have hrow := Hf.out.1 i x hx
        have hsts := Hf.out.2 i x hx
        obtain ⟨ap, cp, hvp, -⟩ := hrow.form
        obtain ⟨ab, cb, hvb, -⟩ := hsts.form
        have hchk := rchks_any _ _ _ hsts
        obtain ⟨np, hnp⟩ : ∃ n, n = x.params.length := ⟨_, rfl⟩
        obtain ⟨nb, hnb⟩ : ∃ n, n = x.body.length := ⟨_, rfl⟩
        rw [hvb, ← hnb] at hchk
        rw [hvp, hvb, ← hnp, ← hnb] at hfc
        have Hrp : Hid (RowOf W (.slice ap np cp) x.params.length 3 (fun b o k => ∀ y, x.params[k]? = some y → PmAt W b o y)) := by rw [hvp, ← hnp] at hrow; rw [← hnp]; exact hrow
        have Hfc := Lib.hid hfc
        have HX := Lib.hid (And.intro hx hchk)
        obtain ⟨i0, i1, i2⟩ := hfc
        obtain ⟨fc, hfe⟩ : ∃ z, z = x.face := ⟨_, rfl⟩
        have Hfe := Lib.hid hfe
        have q4 := block_lt_of_cell i0
        clear hP hx hrow hsts hchk hvp hvb hnp hnb hB
        go_wp2_with fail
        refine (face_any x (.slice ap np cp) ab nb cb wr (Hrp.out.imp HK.out.2.2.size fun b o k hbl _ hp y hy => (hp y hy).later HK.out.2.2 hbl)).mono ?_
        rintro e w3 ⟨rfl, hb3⟩
        rw [← hfe]
        have HK3 := Lib.hid (HK.out.2.1.later hb3)
        have HB3 := Lib.hid (HK.out.2.2.trans (hb3.mono HK.out.2.2.size))
        have Hfc3 := Lib.hid (Hfc.out.later hb3 q4)
        have q5 := hb3.size
        clear hb3 hfe i0 i1 i2 c0 c1 r0 r1 r2 z0 z1 z2
        obtain ⟨c0, c1, r0, r1, r2, z0, z1, z2⟩ := HK3.out
        have q6 := block_lt_of_cell r0
        by_cases hf0 : fc = 0
        · have Hfe0 : Hid (x.face = 0) := Hfe.out.symm.trans hf0
          subst hf0
          go_upto_region 11 with (fail)
          obtain ⟨W4, hW4⟩ : ∃ W4, W4 = w3.alloc (.cells #[.int .i64 0, .int .i64 0] 99) := ⟨_, rfl⟩
          obtain ⟨c, hc⟩ : ∃ c, c = w3.heap.size := ⟨_, rfl⟩
          have hs4 : W4.heap.size = w3.heap.size + 1 := by rw [hW4]; simp
          have hb4 : Below w3.heap.size w3 W4 := by rw [hW4]; exact (Below.refl _ _).alloc (Nat.le_refl _) _
          have hK4 : KAt W4 c 0 0 := by rw [hW4, hc]; exact ⟨World.cell?_alloc_at _ _ _ _ rfl, World.cell?_alloc_at _ _ _ _ rfl, World.frozen?_alloc_at _ _ _ _ rfl, World.frozen?_alloc_at _ _ _ _ rfl⟩
          rw [← hW4, ← hc]
          have HK4 := Lib.hid (And.intro hK4 (HK3.out.later hb4))
          have HB4 := Lib.hid (HB3.out.trans (hb4.mono HB3.out.size))
          have hfc4 := Hfc3.out.later hb4 (by omega)
          have Hc := Lib.hid (And.intro hc hs4)
          have q7 : W.heap.size ≤ c := by have := HB3.out.size; omega
          have q8 : B + 1 < c := by omega
          clear hW4 hb4 hK4 hc hs4 c0 c1 r0 r1 r2 z0 z1 z2
          obtain ⟨c0, c1, r0, r1, r2, z0, z1, z2⟩ := HK4.out.2
          obtain ⟨i0, i1, i2⟩ := hfc4
          go_wp2_with fail
          refine (HX.out.2 W4 c 0 0 1 HB4.out q7 HK4.out.1 (by omega) (by have h1 := Fn.count_take HX.out.1; have h2 := Fn.count_le (l := p.funcs) (i + 1); have := Hok.out.2; omega) (by omega) (by omega) (by omega)).mono ?_
          rintro e w5 ⟨rfl, hK5, hO5⟩
          rw [goN_zero, keepE_zero] at hK5
          obtain ⟨ee, hee⟩ : ∃ z, z = (St.chks x.body 1).2 := ⟨_, rfl⟩
          obtain ⟨ea, hea⟩ : ∃ z : Int, z = ((St.chks x.body 1).1 : Int) := ⟨_, rfl⟩
          rw [← hee, ← hea, Int.zero_add] at hK5
          have Hee := Lib.hid (And.intro hee hea)
          have hC5 : CkAt w5 B (.slice aw m cw) (.slice (some ⟨b, off, none⟩) n cap) := by
            have k := fun blk j (hbl : blk < c) => hO5.cell (p := ⟨blk, j, none⟩) (by show blk < _; have := HK4.out.1.lt; omega) (by show ¬ blk = c; omega)
            have kf := fun blk j (hbl : blk < c) => hO5.frozen (p := ⟨blk, j, none⟩) (by show blk < _; have := HK4.out.1.lt; omega) (by show ¬ blk = c; omega)
            have h := HK4.out.2
            exact ⟨(k _ _ (by omega)).trans h.c0, (k _ _ (by omega)).trans h.c1, (k _ _ (by omega)).trans h.r0, (k _ _ (by omega)).trans h.r1, (k _ _ (by omega)).trans h.r2, (kf _ _ (by omega)).trans h.z0, (kf _ _ (by omega)).trans h.z1, (kf _ _ (by omega)).trans h.z2⟩
          have HK5 := Lib.hid (And.intro hK5 hC5)
          have HB5 : Hid (Below W.heap.size W w5) := HB4.out.trans (hO5.below HB4.out.size fun _ e => by omega)
          have k0 := hK5.c0
          have k1 := hK5.c1
          clear hee hea hK5 hC5 hO5 i0 i1 i2 c0 c1 r0 r1 r2 z0 z1 z2
          obtain ⟨c0, c1, r0, r1, r2, z0, z1, z2⟩ := HK5.out.2
          have q9 := block_lt_of_cell r0
          by_cases he0 : ee = 0
          · have Hnext : Hid ((x.fault (0 + i)).1 = 0) := by
              show _ = _
              unfold Fn.fault
              rw [if_neg (by rw [Hfe0.out]; decide), if_neg (by rw [← Hee.out.1, he0]; decide)]
            subst he0
            go_wp2_with fail
            go_roundg (n - (i + 1))
            case measure => have := Hg.out; omega
            case rel => exact ⟨i + 1, rfl, by go_num, hin, fun j y hj hy => by
                by_cases e : j = i
                · subst e
                  rw [HX.out.1] at hy
                  cases hy; exact Hnext.out
                · exact HK.out.1 j y (by omega) hy, HK5.out.2, HB5.out⟩
          · have hq : (ee != 0) = true := by simp [he0]
            have Hres : Hid (p.fault = (ee, (i : Int), ea)) := by
              show _ = _
              have h : x.fault (0 + i) = (ee, (i : Int), ea) := by unfold Fn.fault; rw [if_neg (by rw [Hfe0.out]; decide), ← Hee.out.1, if_pos he0, Nat.zero_add, Hee.out.2]
              rw [Hfl.out, Fn.faults_hit HX.out.1 HK.out.1 (by rw [h]; exact he0), h]
            go_upto_region 13 with (fail)
            go_still_tail 10, (by kernel_rfl)
            change wpList _ _ _ _ _ w5.drew
            have hbd : Below w5.heap.size w5 w5.drew := (Below.refl _ _).drew
            have HKd := Lib.hid (HK5.out.2.later hbd)
            have HBd := Lib.hid (HB5.out.trans (hbd.mono HB5.out.size))
            obtain ⟨w6, hw6⟩ : ∃ w6, w6 = w5.drew := ⟨_, rfl⟩
            rw [← hw6] at HKd HBd ⊢
            clear hbd hw6 c0 c1 r0 r1 r2 z0 z1 z2 k0 k1
            obtain ⟨c0, c1, r0, r1, r2, z0, z1, z2⟩ := HKd.out
            have q10 := block_lt_of_cell r0
            go_wp2_with fail
            obtain ⟨w9, hw9⟩ : ∃ w9, w9 = ((w6.setCell ⟨B + 1, 0, none⟩ (.int .i64 ee)).setCell ⟨B + 1, 1, none⟩ (.int .i64 (i : Int))).setCell ⟨B + 1, 2, none⟩ (.int .i64 ea) := ⟨_, rfl⟩
            rw [← hw9]
            obtain ⟨d0, d1, d2, hO9⟩ := HKd.out.answer (ee, (i : Int), ea) w9 hw9
            have HO9 := Lib.hid hO9
            clear hw9 hO9 c0 c1 r0 r1 r2 z0 z1 z2
            dsimp only at d0 d1 d2
            refine bodyPost_ret (by simp [results, Tryz.results27, go_sem, d0, d1, d2]; try rfl) rfl ?_
            exact ⟨by rw [Hres.out]; rfl, HBd.out.trans (HO9.out.below (HBd.out.size) fun _ e => by have := HB.out; omega)⟩
        · have hq : (fc != 0) = true := by simp [hf0]
          have Hres : Hid (p.fault = (fc, (i : Int), 0)) := by
            show _ = _
            have h : x.fault (0 + i) = (fc, (i : Int), 0) := by unfold Fn.fault; rw [← Hfe.out, if_pos hf0, Nat.zero_add]
            rw [Hfl.out, Fn.faults_hit HX.out.1 HK.out.1 (by rw [h]; exact hf0), h]
          go_wp2_with fail
          obtain ⟨w9, hw9⟩ : ∃ w9, w9 = ((w3.setCell ⟨B + 1, 0, none⟩ (.int .i64 fc)).setCell ⟨B + 1, 1, none⟩ (.int .i64 (i : Int))).setCell ⟨B + 1, 2, none⟩ (.int .i64 0) := ⟨_, rfl⟩
          rw [← hw9]
          obtain ⟨d0, d1, d2, hO9⟩ := HK3.out.answer (fc, (i : Int), 0) w9 hw9
          have HO9 := Lib.hid hO9
          clear hw9 hO9 c0 c1 r0 r1 r2 z0 z1 z2
          dsimp only at d0 d1 d2
          refine bodyPost_ret (by simp [results, Tryz.results27, go_sem, d0, d1, d2]; try rfl) rfl ?_
          exact ⟨by rw [Hres.out]; rfl, HB3.out.trans (HO9.out.below (HB3.out.size) fun _ e => by have := HB.out; omega)⟩
      · obtain rfl : n = i := by omega
        have Hres : Hid (p.fault = (0, 0, 0)) := by
          show _ = _
          rw [Hfl.out]
          exact Fn.faults_none fun j y hy => HK.out.1 j y (by rw [Hl.out.2]; exact (List.getElem?_eq_some_iff.1 hy).1) hy
        clear hin hB
        go_wp2_with fail
        obtain ⟨w9, hw9⟩ : ∃ w9, w9 = ((wr.setCell ⟨B + 1, 0, none⟩ (.int .i64 0)).setCell ⟨B + 1, 1, none⟩ (.int .i64 0)).setCell ⟨B + 1, 2, none⟩ (.int .i64 0) := ⟨_, rfl⟩
        rw [← hw9]
        obtain ⟨d0, d1, d2, hO9⟩ := HK.out.2.1.answer (0, 0, 0) w9 hw9
        have HO9 := Lib.hid hO9
        clear hw9 hO9 c0 c1 r0 r1 r2 z0 z1 z2
        dsimp only at d0 d1 d2
        refine bodyPost_ret (by simp [results, Tryz.results27, go_sem, d0, d1, d2]; try rfl) rfl ?_
        exact ⟨by rw [Hres.out]; rfl, HK.out.2.2.trans (HO9.out.below (HK.out.2.2.size) fun _ e => by have := HB.out; omega)⟩
  · have hq : (he != 0) = true := by simp [h0]
    have Hres : Hid (p.fault = (he, 0, 0)) := by show _ = _; unfold Pg.fault; rw [← Hhe.out, if_pos h0]
    go_wp2_with fail
    obtain ⟨w9, hw9⟩ : ∃ w9, w9 = ((w2.setCell ⟨B + 1, 0, none⟩ (.int .i64 he)).setCell ⟨B + 1, 1, none⟩ (.int .i64 0)).setCell ⟨B + 1, 2, none⟩ (.int .i64 0) := ⟨_, rfl⟩
    rw [← hw9]
    obtain ⟨d0, d1, d2, hO9⟩ := HK2.out.answer (he, 0, 0) w9 hw9
    have HO9 := Lib.hid hO9
    clear hw9 hO9 c0 c1 r0 r1 r2 z0 z1 z2
    dsimp only at d0 d1 d2
    refine bodyPost_ret (by simp [results, Tryz.results27, go_sem, d0, d1, d2]; try rfl) rfl ?_
    exact ⟨by rw [Hres.out]; rfl, HB2.out.trans (HO9.out.below (HB2.out.size) fun _ e => by have := HB.out; omega)⟩
end Go.Proofs.YtgcplcffejbniaaGreat
