/- R2's look at statements. -/
import Derived.Test.YtneibcpgengdnaaTrChkS
namespace Go.Proofs.Ytneibcpgengdnaa
open Go.RowKit

def goN (e : Int) (k : Nat) : Int := if e = 0 then (k : Int) else 0
theorem goN_zero (k : Nat) : goN 0 k = k := rfl
theorem goN_no {e : Int} (h : e ≠ 0) (k : Nat) : goN e k = 0 := if_neg h
def RChkOk (w0 : World) (l : List St) (v : Value) : Prop := ∀ (W : World) (c : Nat) (n e level : Int), Below w0.heap.size w0 W → w0.heap.size ≤ c → KAt W c n e → 0 ≤ n → n + (St.totals l : Int) ≤ 1000000 → 0 ≤ level → level ≤ 100 → (e = 0 → level ≤ 99) →
  Calls Try.prog 44 #[ptrV c, v, .int .i64 level] W (fun E W' => E = .returned (.tuple #[]) ∧ KAt W' c (n + goN e (St.chks l level).1) (keepE e (St.chks l level).2) ∧ Oth (· = c) W W')
/-- What is wrong with a statement itself, at a level. -/
def St.fown (x : St) (level : Int) : Int := if 32 < level then 20 else x.own
theorem St.front_eq (x : St) (level : Int) : x.front level = keepE (keepE (x.fown level) (if cntA x.kind = true then x.a.err (level + 1) else 0)) (if cntB x.kind = true then x.b.err (level + 1) else 0) := by
  unfold St.front St.fown keepE
  by_cases h : 32 < level
  · simp [h]
  · simp only [h, if_false]
    by_cases ho : x.own = 0
    · simp only [ho, ne_eq, not_true_eq_false, if_false]
      cases cntA x.kind <;> cases cntB x.kind <;> simp <;> (try (split <;> simp_all)) <;> (try exact fun h => h.symm)
    · simp [ho]
theorem KAt.after {W : World} {c : Nat} {n : Int} {r q : Nat × Int} (h : KAt W c (n + (r.1 : Int) + goN r.2 q.1) (keepE r.2 q.2)) : KAt W c (n + ((after r q).1 : Int)) (after r q).2 := by
  by_cases he : r.2 = 0
  · rw [after_ok he]
    rw [he, goN_zero, keepE_zero] at h
    exact h.to (by simp only; omega)
  · rw [after_err he]
    rw [goN_no he, keepE_no he] at h
    exact h.to (by omega)
theorem after_zero2 {r q : Nat × Int} (h : (after r q).2 = 0) : r.2 = 0 := by
  by_cases he : r.2 = 0
  · exact he
  · rw [after_err he] at h; exact h
set_option maxRecDepth 100000 in
set_option maxHeartbeats 8000000 in
theorem rstmt_row (x : St) (aa ab ad ae ac : Option Addr) (na nb nd ne nc ca cb cd ce cc : Nat) (vk : Nat → Value) (w0 : World) (hna : na = x.a.args.length) (hnb : nb = x.b.args.length) (hnd : nd = x.body.length) (hne : ne = x.els.length) (hnc : nc = x.cases.length)
    (hnc62 : nc ≤ 9223372036854775807) (fa : RExprOk w0 x.a.args (.slice aa na ca)) (fb : RExprOk w0 x.b.args (.slice ab nb cb)) (fd : RChkOk w0 x.body (.slice ad nd cd)) (fe : RChkOk w0 x.els (.slice ae ne ce))
    (fc : RowOf w0 (.slice ac nc cc) nc 2 (fun b o k => ∀ y, x.cases[k]? = some y → CsAt w0 b o y (vk k))) (fk : ∀ (j : Nat) y, x.cases[j]? = some y → StsIn w0 y.body (vk j) ∧ RChkOk w0 y.body (vk j))
    (W : World) (c : Nat) (n level : Int) (hB : Below w0.heap.size w0 W) (hcb : w0.heap.size ≤ c) (hK : KAt W c n 0) (hn0 : 0 ≤ n) (hn1 : n + (x.total : Int) ≤ 1000000) (hl0 : 0 ≤ level) (hl1 : level ≤ 99) :
    Calls Try.prog 67 #[ptrV c, stVal x (.slice aa na ca) (.slice ab nb cb) (.slice ad nd cd) (.slice ae ne ce) (.slice ac nc cc), .int .i64 level] W (fun E W' => E = .returned (.tuple #[]) ∧ KAt W' c (n + ((x.chk level).1 : Int)) (x.chk level).2 ∧ Oth (· = c) W W') := by
  have Hy := Lib.hid (And.intro fa (And.intro fb (And.intro fd (And.intro fe (And.intro fc fk)))))
  have Hna := Lib.hid (And.intro hna (And.intro hnb (And.intro hnd (And.intro hne hnc))))
  have Hn1 := Lib.hid hn1
  have Hxt : Hid (x.total = 1 + x.a.part + x.b.part + St.totals x.body + Cs.totals x.cases + St.totals x.els) := x.total_eq
  have hm1 : n ≤ 999999 := by have := Hxt.out; omega
  have q1 := hK.lt
  obtain ⟨W1, hW1⟩ : ∃ W1, W1 = W.alloc (.cells #[.int .i64 x.kind, .string x.name, .int .i64 x.n, .int .i64 x.a.kind, .int .i64 x.a.n, .string x.a.name, .slice aa na ca, .int .i64 x.b.kind, .int .i64 x.b.n, .string x.b.name, .slice ab nb cb, .slice ad nd cd, .slice ae ne ce, .slice ac nc cc] 47) := ⟨_, rfl⟩
  have hK1 : KAt W1 c n 0 := by rw [hW1]; exact hK.later ((Below.refl _ _).alloc (Nat.le_refl _) _)
  have hO1 : Oth (· = c) W W1 := by rw [hW1]; exact (Oth.refl _ _).alloc _
  have hs1 : W1.heap.size = W.heap.size + 1 := by rw [hW1]; simp
  have hv1 : StAt W1 W.heap.size 0 x (.slice aa na ca) (.slice ab nb cb) (.slice ad nd cd) (.slice ae ne ce) (.slice ac nc cc) := by rw [hW1]; exact StAt.box _ _ _ _ _ _ _ _
  obtain ⟨W2, hW2⟩ : ∃ W2, W2 = W1.setCell ⟨c, 0, none⟩ (.int .i64 (n + 1)) := ⟨_, rfl⟩
  have hK2 : KAt W2 c (n + 1) 0 := by rw [hW2]; exact hK1.set0 _
  have hO2 : Oth (· = c) W1 W2 := by rw [hW2]; exact (Oth.refl (· = c) W1).set (p := ⟨c, 0, none⟩) rfl _
  have hv2 := hv1.oth hO2 (by omega) (by omega)
  have H2 := Lib.hid (And.intro hK2 (And.intro (hO1.trans hO2) hv2))
  have HB := Lib.hid hB
  have HW1 := Lib.hid hW1
  have HW2 := Lib.hid hW2
  have k0 := hK1.c0
  have k2 := hK1.f0
  have q2 : W.heap.size < W1.heap.size := by omega
  have q3 := hO2.size
  unfold stVal
  clear fa fb fd fe fc fk hna hnb hnd hne hnc hn1 hW1 hW2 hK hK1 hO1 hs1 hv1 hK2 hO2 hv2 hB
  go_enter Try.func67, Try.ntmps67
  go_upto_region 1 with (fail)
  rw [← HW1.out]
  go_upto_region 2 with (fail)
  rw [← HW2.out]
  obtain ⟨i0, i1, i2, i3, i4, i5, i6, i7, i8, i9, i10, i11, i12, i13⟩ := H2.out.2.2
  clear k0 k2 i1 i2 i3 i4 i5 i6 i7 i8 i9 i10 i11 i12 i13
  go_wp2_with fail
  refine (counts_any x.kind W2).mono ?_
  rintro e w3 ⟨rfl, hb3⟩
  unfold cntV
  obtain ⟨f0, hf0⟩ : ∃ f, f = cntName x.kind := ⟨_, rfl⟩
  obtain ⟨f1, hf1⟩ : ∃ f, f = cntN x.kind := ⟨_, rfl⟩
  obtain ⟨f2, hf2⟩ : ∃ f, f = cntA x.kind := ⟨_, rfl⟩
  obtain ⟨f3, hf3⟩ : ∃ f, f = cntB x.kind := ⟨_, rfl⟩
  obtain ⟨f4, hf4⟩ : ∃ f, f = cntBody x.kind := ⟨_, rfl⟩
  obtain ⟨f5, hf5⟩ : ∃ f, f = cntElse x.kind := ⟨_, rfl⟩
  obtain ⟨f6, hf6⟩ : ∃ f, f = cntCases x.kind := ⟨_, rfl⟩
  rw [← hf0, ← hf1, ← hf2, ← hf3, ← hf4, ← hf5, ← hf6]
  obtain ⟨W4, hW4⟩ : ∃ W4, W4 = w3.alloc (.cells #[.bool f0, .bool f1, .bool f2, .bool f3, .bool f4, .bool f5, .bool f6] 142) := ⟨_, rfl⟩
  obtain ⟨D, hD⟩ : ∃ D, D = w3.heap.size := ⟨_, rfl⟩
  have hs4 : W4.heap.size = w3.heap.size + 1 := by rw [hW4]; simp
  have hb4 : Below w3.heap.size w3 W4 := by rw [hW4]; exact (Below.refl _ _).alloc (Nat.le_refl _) _
  have hfl : FlAt W4 D f0 f1 f2 f3 f4 f5 f6 := by rw [hW4, hD]; constructor <;> exact World.cell?_alloc_at _ _ _ _ rfl
  have q4 := hb3.size
  have hb24 : Below W2.heap.size W2 W4 := hb3.trans (hb4.mono q4)
  have hst4 := H2.out.2.2.later hb24 (by omega)
  have HF := Lib.hid (And.intro hf0 (And.intro hf2 hf3))
  have HK4 := Lib.hid (H2.out.1.later hb24)
  have HO4 : Hid (Oth (· = c) W W4) := H2.out.2.1.trans (.of_below hb24)
  have HS4 := Lib.hid (And.intro hst4 hfl)
  have HB4 : Hid (Below w0.heap.size w0 W4) := HB.out.trans (HO4.out.below HB.out.size fun _ e => by omega)
  have q5 : W.heap.size < D := by omega
  have q6 : D < W4.heap.size := by omega
  have q7 : W.heap.size < W4.heap.size := by omega
  have q8 : c < W4.heap.size := by omega
  have HW4 := Lib.hid hW4
  have HD := Lib.hid hD
  clear hf0 hf1 hf2 hf3 hf4 hf5 hf6 hW4 hD hs4 hb4 hfl hb24 hst4 hb3 q4 i0 H2 HW1 HW2
  go_upto_block 0 with (fail)
  rw [← HW4.out, ← HD.out]
  obtain ⟨fm, hfm⟩ : ∃ z, z = x.formed := ⟨_, rfl⟩
  obtain ⟨no, hno⟩ : ∃ z, z = nameB x.name := ⟨_, rfl⟩
  obtain ⟨lo, hlo⟩ : ∃ z, z = lowestB x.cases := ⟨_, rfl⟩
  have Hown : Hid (¬ 32 < level → x.fown level = if fm = false then 5 else if (f0 && !no) = true then 8 else if (decide (x.n < 0) || lo) = true then 1 else if x.kind = 10 ∧ x.a.kind ≠ 4 then 5 else 0) := by
    intro hl
    unfold St.fown St.own
    rw [if_neg hl, ← hfm, ← hno, ← hlo, ← HF.out.1]
  have Hset : Hid (∀ w, KAt w c (n + 1) 0 → Oth (· = c) W4 w → ∀ e, x.fown level = e → KAt (w.setCell ⟨c, 1, none⟩ (.int .i64 e)) c (n + 1) (x.fown level) ∧ Oth (· = c) W4 (w.setCell ⟨c, 1, none⟩ (.int .i64 e))) := fun w hk ho e he => ⟨by rw [he]; exact hk.set1 e, ho.set (p := ⟨c, 1, none⟩) rfl _⟩
  have Hnone : Hid (∀ w, KAt w c (n + 1) 0 → Oth (· = c) W4 w → x.fown level = 0 → KAt w c (n + 1) (x.fown level) ∧ Oth (· = c) W4 w) := fun w hk ho he => ⟨by rw [he]; exact hk, ho⟩
  have Hfm := Lib.hid hfm
  have Hno := Lib.hid hno
  have Hlo := Lib.hid hlo
  clear hfm hno hlo
  go_cut [1, 16, 17] (fun _ _ _ wc => KAt wc c (n + 1) (x.fown level) ∧ Oth (· = c) W4 wc)
  case first =>
    obtain ⟨i0, i1, i2, i3, i4, i5, i6, i7, i8, i9, i10, i11, i12, i13⟩ := HS4.out.1
    simp only [Nat.zero_add] at i1 i2 i3 i4 i5 i6 i7 i8 i9 i10 i11 i12 i13
    have l1 := HK4.out.c1
    have l3 := HK4.out.f1
    by_cases hl : 32 < level
    · go_wp2_with fail
      go_meet
      case rel => exact Hset.out _ HK4.out (Oth.refl _ _) _ (if_pos (by omega))
    · have Ho := Lib.hid (Hown.out hl)
      clear Hown
      go_wp2_with fail
      clear i0 i1 i2 i3 i4 i5 i6 i7 i8 i9 i10 i11 i12 i13 l1 l3
      have hf := formed_any x aa ab ad ae ac na nb nd ne nc ca cb cd ce cc Hna.out.1 Hna.out.2.1 Hna.out.2.2.1 Hna.out.2.2.2.1 Hna.out.2.2.2.2 W4
      unfold stVal at hf
      refine hf.mono ?_
      rintro e w5 ⟨rfl, hb5⟩
      clear hf
      rw [← Hfm.out]
      have HK5 := Lib.hid (HK4.out.later hb5)
      have HO5 := Lib.hid (Oth.of_below (S := (· = c)) hb5)
      have HB5 : Hid (Below w0.heap.size w0 w5) := HB4.out.trans (hb5.mono HB4.out.size)
      obtain ⟨i0, i1, i2, i3, i4, i5, i6, i7, i8, i9, i10, i11, i12, i13⟩ := HS4.out.1.later hb5 q7
      obtain ⟨g0, g1, g2, g3, g4, g5, g6⟩ := HS4.out.2.later hb5 q6
      simp only [Nat.zero_add] at i1 i2 i3 i13
      clear i4 i5 i6 i7 i8 i9 i10 i11 i12 g1 g2 g3 g4 g5 g6
      have l1 := HK5.out.c1
      have l3 := HK5.out.f1
      have q9 := hb5.size
      have HS5 := Lib.hid (And.intro (HS4.out.1.later hb5 q7) (HS4.out.2.later hb5 q6))
      have q10 : W.heap.size < w5.heap.size := by omega
      have q11 : D < w5.heap.size := by omega
      clear hb5 Hfm
      cases fm
      · go_wp2_with fail
        go_meet
        case rel => exact Hset.out _ HK5.out HO5.out _ (by rw [Ho.out]; rfl)
      · cases f0
        · go_wp2_with fail
          all_goals first
            | go_meet
              case rel => first
                | exact Hset.out _ HK5.out HO5.out _ (by rw [Ho.out]; simp_all <;> (intros; omega))
                | exact Hnone.out _ HK5.out HO5.out (by rw [Ho.out]; simp_all <;> (intros; omega))
            | refine (rlowest_any x.cases (.slice ac nc cc) vk _ (by rw [← Hna.out.2.2.2.2]; exact Hy.out.2.2.2.2.1.imp HB5.out.size fun b o k hbl _ hp y hy => (hp y hy).later HB5.out hbl)).mono ?_
              rintro e w8 ⟨rfl, hw8⟩
              rw [← hw8, ← Hlo.out]
              clear hw8 Hlo
              cases lo
              all_goals
                go_wp2_with fail
                all_goals
                  go_meet
                  case rel => first
                    | exact Hset.out _ HK5.out HO5.out _ (by rw [Ho.out]; simp_all <;> (intros; omega))
                    | exact Hnone.out _ HK5.out HO5.out (by rw [Ho.out]; simp_all <;> (intros; omega))
        · go_wp2_with fail
          refine (rname_any x.name w5).mono ?_
          rintro e w6 ⟨rfl, hb6⟩
          rw [← Hno.out]
          have HK6 := Lib.hid (HK5.out.later hb6)
          have HO6 := Lib.hid (HO5.out.trans (Oth.of_below (S := (· = c)) hb6))
          have HB6 : Hid (Below w0.heap.size w0 w6) := HB5.out.trans (hb6.mono HB5.out.size)
          clear i0 i1 i2 i3 i13 g0 l1 l3 Hno
          obtain ⟨i0, i1, i2, i3, i4, i5, i6, i7, i8, i9, i10, i11, i12, i13⟩ := HS5.out.1.later hb6 q10
          simp only [Nat.zero_add] at i1 i2 i3 i13
          clear i4 i5 i6 i7 i8 i9 i10 i11 i12
          have l1 := HK6.out.c1
          have l3 := HK6.out.f1
          have q12 := hb6.size
          clear hb6
          cases no
          · go_wp2_with fail
            go_meet
            case rel => exact Hset.out _ HK6.out HO6.out _ (by rw [Ho.out]; rfl)
          · go_wp2_with fail
            all_goals first
              | go_meet
                case rel => first
                  | exact Hset.out _ HK6.out HO6.out _ (by rw [Ho.out]; simp_all <;> (intros; omega))
                  | exact Hnone.out _ HK6.out HO6.out (by rw [Ho.out]; simp_all <;> (intros; omega))
              | refine (rlowest_any x.cases (.slice ac nc cc) vk _ (by rw [← Hna.out.2.2.2.2]; exact Hy.out.2.2.2.2.1.imp HB6.out.size fun b o k hbl _ hp y hy => (hp y hy).later HB6.out hbl)).mono ?_
                rintro e w8 ⟨rfl, hw8⟩
                rw [← hw8, ← Hlo.out]
                clear hw8 Hlo
                cases lo
                all_goals
                  go_wp2_with fail
                  all_goals
                    go_meet
                    case rel => first
                      | exact Hset.out _ HK6.out HO6.out _ (by rw [Ho.out]; simp_all <;> (intros; omega))
                      | exact Hnone.out _ HK6.out HO6.out (by rw [Ho.out]; simp_all <;> (intros; omega))
  case rest =>
    obtain ⟨hK5, hO5⟩ := hcut
    obtain ⟨V, hV⟩ : ∃ V : World, V = wc := ⟨_, rfl⟩
    subst hV
    obtain ⟨e1, he1⟩ : ∃ z, z = x.fown level := ⟨_, rfl⟩
    rw [← he1] at hK5
    have He1 : Hid (e1 = x.fown level) := he1
    have HK5 := Lib.hid hK5
    have HO5 := Lib.hid hO5
    have r1 := hO5.size
    have HS5 := Lib.hid (And.intro (HS4.out.1.oth hO5 q7 (by omega)) (HS4.out.2.oth hO5 q6 (by omega)))
    have HB5 : Hid (Below w0.heap.size w0 V) := HB4.out.trans (hO5.below HB4.out.size fun _ e => by omega)
    have r2 : W.heap.size < V.heap.size := by omega
    have r3 : D < V.heap.size := by omega
    clear he1 hK5 hO5 Hset Hnone Hown Hfm Hno Hlo
    obtain ⟨g0, g1, g2, g3, g4, g5, g6⟩ := HS5.out.2
    obtain ⟨i0, i1, i2, i3, i4, i5, i6, i7, i8, i9, i10, i11, i12, i13⟩ := HS5.out.1
    simp only [Nat.zero_add] at i3 i4 i5 i6
    clear g0 g1 g3 g4 g5 g6 i0 i1 i2 i7 i8 i9 i10 i11 i12 i13
    go_upto_if 69 with (fail)
    obtain ⟨ea, hea⟩ : ∃ z, z = x.a.err (level + 1) := ⟨_, rfl⟩
    obtain ⟨eb, heb⟩ : ∃ z, z = x.b.err (level + 1) := ⟨_, rfl⟩
    have Heab := Lib.hid (And.intro hea heb)
    clear hea heb
    go_cut [68, 69] (fun _ _ wc => KAt wc c (n + 1) (keepE e1 (if f2 = true then ea else 0)) ∧ Oth (· = c) V wc)
    case first =>
      cases f2
      · go_wp2_with fail
        go_meet
        case rel =>
          refine ⟨?_, Oth.refl _ _⟩
          have h := HK5.out
          unfold keepE
          by_cases he : e1 = 0
          · rw [if_pos he]; rw [he] at h; simpa using h
          · rw [if_neg he]; exact h
      · go_wp2_with fail
        refine (Hy.out.1 x.a rfl _ c (n + 1) e1 (level + 1) HB5.out hcb HK5.out (by omega) (by omega)).mono ?_
        rintro e w7 ⟨rfl, hK7, hO7⟩
        have HK7 := Lib.hid (And.intro hK7 hO7)
        clear hK7 hO7 i3 i4 i5 i6 g2
        go_wp2_with fail
        go_meet
        case rel => exact ⟨by have h := HK7.out.1; rw [← Heab.out.1] at h; simpa using h, HK7.out.2⟩
    case rest =>
      obtain ⟨hK6, hO6⟩ := hcut
      obtain ⟨V2, hV2⟩ : ∃ V : World, V = wc := ⟨_, rfl⟩
      subst hV2
      clear i3 i4 i5 i6 g2
      obtain ⟨e2, he2⟩ : ∃ z, z = keepE e1 (if f2 = true then ea else 0) := ⟨_, rfl⟩
      rw [← he2] at hK6
      have He2 := Lib.hid he2
      have HK6 := Lib.hid hK6
      have r4 := hO6.size
      have HS6 := Lib.hid (And.intro (HS5.out.1.oth hO6 r2 (by omega)) (HS5.out.2.oth hO6 r3 (by omega)))
      have HB6 : Hid (Below w0.heap.size w0 V2) := HB5.out.trans (hO6.below HB5.out.size fun _ e => by omega)
      have HO6 : Hid (Oth (· = c) W4 V2) := HO5.out.trans hO6
      have r5 : W.heap.size < V2.heap.size := by omega
      have r6 : D < V2.heap.size := by omega
      clear he2 hK6 hO6
      obtain ⟨g0, g1, g2, g3, g4, g5, g6⟩ := HS6.out.2
      obtain ⟨i0, i1, i2, i3, i4, i5, i6, i7, i8, i9, i10, i11, i12, i13⟩ := HS6.out.1
      simp only [Nat.zero_add] at i7 i8 i9 i10
      clear g0 g1 g2 g4 g5 g6 i0 i1 i2 i3 i4 i5 i6 i11 i12 i13
      go_upto_if 77 with (fail)
      go_cut [76, 77] (fun _ _ wc => KAt wc c (n + 1) (keepE e2 (if f3 = true then eb else 0)) ∧ Oth (· = c) V2 wc)
      case first =>
        cases f3
        · go_wp2_with fail
          go_meet
          case rel =>
            refine ⟨?_, Oth.refl _ _⟩
            have h := HK6.out
            unfold keepE
            by_cases he : e2 = 0
            · rw [if_pos he]; rw [he] at h; simpa using h
            · rw [if_neg he]; exact h
        · go_wp2_with fail
          refine (Hy.out.2.1 x.b rfl _ c (n + 1) e2 (level + 1) HB6.out hcb HK6.out (by omega) (by omega)).mono ?_
          rintro e w7 ⟨rfl, hK7, hO7⟩
          have HK7 := Lib.hid (And.intro hK7 hO7)
          clear hK7 hO7 i7 i8 i9 i10 g3
          go_wp2_with fail
          go_meet
          case rel => exact ⟨by have h := HK7.out.1; rw [← Heab.out.2] at h; simpa using h, HK7.out.2⟩
      case rest =>
        obtain ⟨hK7, hO7⟩ := hcut
        obtain ⟨V3, hV3⟩ : ∃ V : World, V = wc := ⟨_, rfl⟩
        subst hV3
        clear i7 i8 i9 i10 g3
        obtain ⟨e3, he3⟩ : ∃ z, z = keepE e2 (if f3 = true then eb else 0) := ⟨_, rfl⟩
        rw [← he3] at hK7
        have He3 : Hid (e3 = x.front level) := by
          show _ = _
          rw [St.front_eq, he3, He2.out, He1.out, Heab.out.1, Heab.out.2, HF.out.2.1, HF.out.2.2]
        have Hlow : Hid (e3 = 0 → level ≤ 32) := by
          intro h
          have h2 := He3.out
          rw [h] at h2
          by_cases hl : 32 < level
          · exfalso
            unfold St.front at h2
            rw [if_pos hl] at h2
            omega
          · omega
        have HK7 := Lib.hid hK7
        have r7 := hO7.size
        have HS7 := Lib.hid (HS6.out.1.oth hO7 r5 (by omega))
        have HB7 : Hid (Below w0.heap.size w0 V3) := HB6.out.trans (hO7.below HB6.out.size fun _ e => by omega)
        have HO7 : Hid (Oth (· = c) W V3) := HO4.out.trans (HO6.out.trans hO7)
        have r8 : W.heap.size < V3.heap.size := by omega
        have Hchk : Hid (x.chk level = after (1, e3) (after (St.chks x.body (level + 1)) (after (Cs.chks x.cases (level + 1)) (St.chks x.els (level + 1))))) := by show _ = _; rw [St.chk_eq, ← He3.out]
        clear he3 hK7 hO7 He2 He1 Heab HF HS4 HS5 HS6 HB4 HB5 HB6 HO4 HO5 HO6 HK4 HK5 HK6 HW4 HD
        obtain ⟨i0, i1, i2, i3, i4, i5, i6, i7, i8, i9, i10, i11, i12, i13⟩ := HS7.out
        simp only [Nat.zero_add] at i11
        clear i0 i1 i2 i3 i4 i5 i6 i7 i8 i9 i10 i12 i13
        go_wp2_with fail
        refine (Hy.out.2.2.1 _ c (n + 1) e3 (level + 1) HB7.out hcb HK7.out (by omega) (by have := Hn1.out; have := Hxt.out; omega) (by omega) (by omega) (fun h => by have := Hlow.out h; omega)).mono ?_
        rintro e w8 ⟨rfl, hK8, hO8⟩
        obtain ⟨r, hr⟩ : ∃ r, r = after (1, e3) (St.chks x.body (level + 1)) := ⟨_, rfl⟩
        have hKr : KAt w8 c (n + (r.1 : Int)) r.2 := by rw [hr]; exact KAt.after (r := (1, e3)) hK8
        have Hr1 : Hid (r.1 ≤ 1 + St.totals x.body) := by
          show _ ≤ _
          have h1 := after_fst_le (1, e3) (St.chks x.body (level + 1))
          have h2 := St.chks_le x.body (level + 1)
          rw [← hr] at h1
          simp only at h1
          omega
        have Hr2 : Hid (r.2 = 0 → level ≤ 32) := fun h => Hlow.out (after_zero2 (by rw [← hr]; exact h))
        have Hchk2 : Hid (x.chk level = after r (after (Cs.chks x.cases (level + 1)) (St.chks x.els (level + 1)))) := by show _ = _; rw [Hchk.out, ← after_assoc, ← hr]
        have HKr := Lib.hid hKr
        have r9 := hO8.size
        have HS8 := Lib.hid (HS7.out.oth hO8 r8 (by omega))
        have HO8 : Hid (Oth (· = c) W w8) := HO7.out.trans hO8
        have r10 : W.heap.size < w8.heap.size := by omega
        clear hK8 hO8 hr hKr i11 Hchk Hlow He3 HK7 HS7 HB7 HO7
        go_wp2_with fail
        go_loopg [7] nc (fun g jv wx => ∃ j : Nat, g = nc - j ∧ jv = .int .i64 (j : Int) ∧ j ≤ nc ∧ KAt wx c (n + ((after r (Cs.chks (x.cases.take j) (level + 1))).1 : Int)) (after r (Cs.chks (x.cases.take j) (level + 1))).2 ∧ Oth (· = c) w8 wx)
        case atStart => exact ⟨0, rfl, rfl, by omega, by simpa [Cs.chks, after_zero] using HKr.out, Oth.refl _ _⟩
        case round =>
          obtain ⟨j, hg2, rfl, hj, hC, hO⟩ := hrel
          obtain ⟨s, hs⟩ : ∃ s, s = after r (Cs.chks (x.cases.take j) (level + 1)) := ⟨_, rfl⟩
          rw [← hs] at hC
          have Hs := Lib.hid hs
          have HG2 := Lib.hid hg2
          have HC := Lib.hid hC
          have HOj := Lib.hid hO
          have hw8 : Oth (· = c) W wr := HO8.out.trans hO
          have HO9 := Lib.hid hw8
          have HBw : Hid (Below w0.heap.size w0 wr) := HB.out.trans (hw8.below HB.out.size fun _ e => by omega)
          have qs := hO.size
          have Hs1 : Hid (s.1 ≤ 1 + St.totals x.body + Cs.totals (x.cases.take j)) := by
            show _ ≤ _
            have h1 := after_fst_le r (Cs.chks (x.cases.take j) (level + 1))
            have h2 := Cs.chks_le (x.cases.take j) (level + 1)
            have h3 := Hr1.out
            rw [← hs] at h1
            omega
          have Hs2 : Hid (s.2 = 0 → level ≤ 32) := fun h => Hr2.out (after_zero2 (by rw [← hs]; exact h))
          have HS9 := Lib.hid (HS8.out.oth hO r10 (by omega))
          obtain ⟨i0, i1, i2, i3, i4, i5, i6, i7, i8, i9, i10, i11, i12, i13⟩ := HS9.out
          simp only [Nat.zero_add] at i12 i13
          clear i0 i1 i2 i3 i4 i5 i6 i7 i8 i9 i10 i11 hg2 hs hC hO hw8
          by_cases hj2 : j < nc
          · obtain ⟨y, hy⟩ : ∃ y, x.cases[j]? = some y := ⟨_, List.getElem?_eq_getElem (by rw [← Hna.out.2.2.2.2]; exact hj2)⟩
            obtain ⟨bc, oc, rfl, hbc, hPc⟩ := Hy.out.2.2.2.2.1.at (i := j) hj2
            have hcs := (hPc y hy).later HBw.out hbc
            obtain ⟨hsb, hib⟩ := Hy.out.2.2.2.2.2 j y hy
            obtain ⟨ay, cy, hvy, -⟩ := hsb.form
            obtain ⟨ny, hny⟩ : ∃ n, n = y.body.length := ⟨_, rfl⟩
            rw [hvy, ← hny] at hcs hib
            obtain ⟨j0, j1⟩ := hcs
            have r0 := block_lt_of_cell j0
            have Hbound : Hid (0 ≤ n + (s.1 : Int) ∧ n + (s.1 : Int) + (St.totals y.body : Int) ≤ 1000000) := by
              have h1 := Hn1.out
              have h2 := Hxt.out
              have h3 := Hs1.out
              have h5 := Cs.totals_take hy
              have h6 := Cs.totals_le (l := x.cases) (j + 1)
              have h7 := Cs.total_eq y
              constructor <;> omega
            have HD1 := Lib.hid (And.intro hib hy)
            clear hPc hy hib hsb hvy hny i12
            go_wp2_with fail
            refine (HD1.out.1 wr c (n + (s.1 : Int)) s.2 (level + 1) HBw.out hcb HC.out Hbound.out.1 Hbound.out.2 (by omega) (by omega) (fun h => by have := Hs2.out h; omega)).mono ?_
            rintro e w9 ⟨rfl, hK9, hO9⟩
            have HK9 := Lib.hid (And.intro hK9.after hO9)
            clear hK9 hO9 j0 j1 i13
            go_wp2_with fail
            go_roundg (nc - (j + 1))
            case measure => have := HG2.out; omega
            case rel =>
              have h := HK9.out.1
              rw [Hs.out, after_assoc, ← Cs.chk_eq, ← Cs.chks_take HD1.out.2] at h
              exact ⟨j + 1, rfl, by go_num, hj2, h, HOj.out.trans HK9.out.2⟩
          · obtain rfl : nc = j := by omega
            have Hct : Hid (x.cases.take nc = x.cases) := List.take_of_length_le (by rw [← Hna.out.2.2.2.2]; exact Nat.le_refl _)
            have Hbound : Hid (0 ≤ n + (s.1 : Int) ∧ n + (s.1 : Int) + (St.totals x.els : Int) ≤ 1000000) := by
              have h1 := Hn1.out
              have h2 := Hxt.out
              have h3 := Hs1.out
              have h6 := Cs.totals_le (l := x.cases) nc
              constructor <;> omega
            clear hj2
            go_wp2_with fail
            refine (Hy.out.2.2.2.1 wr c (n + (s.1 : Int)) s.2 (level + 1) HBw.out hcb HC.out Hbound.out.1 Hbound.out.2 (by omega) (by omega) (fun h => by have := Hs2.out h; omega)).mono ?_
            rintro e w9 ⟨rfl, hK9, hO9⟩
            have HK9 := Lib.hid (And.intro hK9.after hO9)
            clear hK9 hO9 i12 i13
            go_wp2_with fail
            refine bodyPost_end (results_none rfl _ _ _) rfl ?_
            have h := HK9.out.1
            rw [Hs.out, Hct.out, after_assoc, ← Hchk2.out] at h
            exact ⟨rfl, h, HO9.out.trans HK9.out.2⟩
set_option maxRecDepth 100000 in
set_option maxHeartbeats 8000000 in
theorem rchks_any (l : List St) (v : Value) (w0 : World) (h : StsIn w0 l v) : RChkOk w0 l v := by
  induction h with
  | mk l v va vb vd ve vc vk h ha hb hd he hc hk ihd ihe ihk =>
  intro W c n0 e0 level hB hcb hK hn0 hn1 hl0 hl1 hl2
  obtain ⟨a, cap, rfl, hncap, hcap⟩ := h.form
  obtain ⟨n, hn⟩ : ∃ n, n = l.length := ⟨_, rfl⟩
  have Hn := Lib.hid hn
  have Hn1 := Lib.hid hn1
  have Hl2 := Lib.hid hl2
  have Hrow : Hid (RowOf w0 (.slice a n cap) l.length 14 (fun b o i => ∀ x, l[i]? = some x → StAt w0 b o x (va i) (vb i) (vd i) (ve i) (vc i))) := by rw [hn]; exact h
  have Hih := Lib.hid (And.intro ihd (And.intro ihe ihk))
  have Hf := Lib.hid (And.intro ha (And.intro hb (And.intro hd (And.intro he (And.intro hc hk)))))
  have HB := Lib.hid hB
  have HK := Lib.hid hK
  rw [← hn]
  rw [← hn] at hncap
  have hn62 : n ≤ 9223372036854775807 := by have : maxLen ≤ 9223372036854775807 := by decide
                                            omega
  clear h ha hb hd he hc hk ihd ihe ihk hn hB hK hn1 hl2
  go_enter Try.func44, Try.ntmps44
  go_wp2_with fail
  go_loopg [6] n (fun g iv wx => ∃ (i : Nat) (ei ni : Int), g = n - i ∧ iv = .int .i64 (i : Int) ∧ i ≤ n ∧ KAt wx c ni ei ∧ Oth (· = c) W wx ∧ ((ei = 0 ∧ e0 = 0 ∧ ni = n0 + ((St.chks (l.take i) level).1 : Int) ∧ (St.chks (l.take i) level).2 = 0) ∨ (ei ≠ 0 ∧ keepE e0 (St.chks l level).2 = ei ∧ n0 + goN e0 (St.chks l level).1 = ni)))
  case atStart =>
    refine ⟨0, e0, n0, rfl, rfl, Nat.zero_le _, HK.out, Oth.refl _ _, ?_⟩
    by_cases he : e0 = 0
    · exact .inl ⟨he, he, by simp [St.chks], by simp [St.chks]⟩
    · exact .inr ⟨he, keepE_no he _, by rw [goN_no he]; omega⟩
  case round =>
    obtain ⟨i, ei, ni, hg, rfl, hi, hK, hO, hp⟩ := hrel
    have HK2 := Lib.hid (And.intro hK (And.intro hO hp))
    have Hg := Lib.hid hg
    have hk1 := hK.c1
    have q1 := hK.lt
    have hB2 : Below w0.heap.size w0 wr := HB.out.trans (hO.below HB.out.size fun _ e => by omega)
    have HB2 := Lib.hid hB2
    clear hg hK hO hp
    by_cases hin : i < n
    · by_cases hez : ei = 0
      · subst hez
        obtain ⟨hp1, hp2, hp3⟩ : e0 = 0 ∧ ni = n0 + ((St.chks (l.take i) level).1 : Int) ∧ (St.chks (l.take i) level).2 = 0 := by
          rcases HK2.out.2.2 with h | h
          · exact h.2
          · exact absurd rfl h.1
        have Hp := Lib.hid (And.intro hp1 (And.intro hp2 hp3))
        have hl3 : level ≤ 99 := Hl2.out hp1
        obtain ⟨x, hx⟩ : ∃ x, l[i]? = some x := ⟨_, List.getElem?_eq_getElem (by rw [← Hn.out]; exact hin)⟩
        obtain ⟨b, off, rfl, hb, hP⟩ := Hrow.out.at (i := i) (by rw [← Hn.out]; exact hin)
        have hst := (hP x hx).later hB2 hb
        obtain ⟨fa, fb, fd, fe, fc, fk⟩ := Hf.out
        obtain ⟨aa, ca, hva, -⟩ := (fa i x hx).form
        obtain ⟨ab, cb, hvb, -⟩ := (fb i x hx).form
        obtain ⟨ad, cd, hvd, -⟩ := (fd i x hx).form
        obtain ⟨ae, ce, hve, -⟩ := (fe i x hx).form
        obtain ⟨ac, cc, hvc, hcc1, hcc2⟩ := (fc i x hx).form
        have fa' : RExprOk w0 x.a.args (va i) := rexpr_any _ _ _ (fa i x hx)
        have fb' : RExprOk w0 x.b.args (vb i) := rexpr_any _ _ _ (fb i x hx)
        have fd' : RChkOk w0 x.body (vd i) := Hih.out.1 i x hx
        have fe' : RChkOk w0 x.els (ve i) := Hih.out.2.1 i x hx
        have fc' := fc i x hx
        have fk' : ∀ (j : Nat) y, x.cases[j]? = some y → StsIn w0 y.body (vk i j) ∧ RChkOk w0 y.body (vk i j) := fun j y hy => ⟨fk i x j y hx hy, Hih.out.2.2 i x j y hx hy⟩
        obtain ⟨na, hna⟩ : ∃ n, n = x.a.args.length := ⟨_, rfl⟩
        obtain ⟨nb, hnb⟩ : ∃ n, n = x.b.args.length := ⟨_, rfl⟩
        obtain ⟨nd, hnd⟩ : ∃ n, n = x.body.length := ⟨_, rfl⟩
        obtain ⟨ne, hne⟩ : ∃ n, n = x.els.length := ⟨_, rfl⟩
        obtain ⟨nc, hnc⟩ : ∃ n, n = x.cases.length := ⟨_, rfl⟩
        rw [hva, hvb, hvd, hve, hvc, ← hna, ← hnb, ← hnd, ← hne, ← hnc] at hst
        rw [hva, ← hna] at fa'
        rw [hvb, ← hnb] at fb'
        rw [hvd, ← hnd] at fd'
        rw [hve, ← hne] at fe'
        rw [hvc, ← hnc] at fc'
        rw [← hnc] at hcc1
        have hnc62 : nc ≤ 9223372036854775807 := by have : maxLen ≤ 9223372036854775807 := by decide
                                                    omega
        have Hcall := Lib.hid (rstmt_row x aa ab ad ae ac na nb nd ne nc ca cb cd ce cc (vk i) w0 hna hnb hnd hne hnc hnc62 fa' fb' fd' fe' fc' fk' wr c ni level hB2 hcb HK2.out.1 (by omega)
          (by have h1 := Hn1.out; have h2 := St.chks_le (l.take i) level; have h3 := St.totals_take hx; have h4 := St.totals_le (l := l) (i + 1); omega) hl0 hl3)
        have Hx := Lib.hid hx
        obtain ⟨i0, i1, i2, i3, i4, i5, i6, i7, i8, i9, i10, i11, i12, i13⟩ := hst
        clear hB2 hP hx fa fb fd fe fc fk fa' fb' fd' fe' fc' fk' hna hnb hnd hne hnc hva hvb hvd hve hvc hcc1 hp1 hp2 hp3
        go_wp2_with fail
        refine Hcall.out.mono ?_
        rintro e w5 ⟨rfl, hK5, hO5⟩
        have H5 := Lib.hid (And.intro hK5 hO5)
        clear hK5 hO5 i0 i1 i2 i3 i4 i5 i6 i7 i8 i9 i10 i11 i12 i13 hk1 Hcall
        go_wp2_with fail
        go_roundg (n - (i + 1))
        case measure => have := Hg.out; omega
        case rel =>
          refine ⟨i + 1, (x.chk level).2, ni + ((x.chk level).1 : Int), rfl, by go_num, hin, H5.out.1, HK2.out.2.1.trans H5.out.2, ?_⟩
          by_cases hz : (x.chk level).2 = 0
          · have h := St.chks_next (level := level) Hx.out Hp.out.2.2
            exact .inl ⟨hz, Hp.out.1, by rw [h, Hp.out.2.1]; simp only; omega, by rw [h]; exact hz⟩
          · have h := St.chks_hit (level := level) Hx.out Hp.out.2.2 hz
            exact .inr ⟨hz, by rw [h, Hp.out.1, keepE_zero], by rw [h, Hp.out.1, goN_zero, Hp.out.2.1]; simp only; omega⟩
      · have hq : (ei == 0) = false := by simp [hez]
        have Hres : Hid (keepE e0 (St.chks l level).2 = ei ∧ n0 + goN e0 (St.chks l level).1 = ni) := by
          rcases HK2.out.2.2 with h | h
          · exact absurd h.1 hez
          · exact h.2
        clear hB2
        go_wp2_with fail
        refine bodyPost_end (results_none rfl _ _ _) rfl ?_
        exact ⟨rfl, by rw [Hres.out.1, Hres.out.2]; exact HK2.out.1, HK2.out.2.1⟩
    · obtain rfl : n = i := by omega
      have Hres : Hid (keepE e0 (St.chks l level).2 = ei ∧ n0 + goN e0 (St.chks l level).1 = ni) := by
        rcases HK2.out.2.2 with h | h
        · have ht : l.take n = l := List.take_of_length_le (by rw [← Hn.out]; exact Nat.le_refl _)
          rw [ht] at h
          exact ⟨by rw [h.2.1, keepE_zero, h.1, h.2.2.2], by rw [h.2.1, goN_zero, h.2.2.1]⟩
        · exact h.2
      clear hB2 hin hk1
      go_wp2_with fail
      refine bodyPost_end (results_none rfl _ _ _) rfl ?_
      exact ⟨rfl, by rw [Hres.out.1, Hres.out.2]; exact HK2.out.1, HK2.out.2.1⟩
end Go.Proofs.Ytneibcpgengdnaa
