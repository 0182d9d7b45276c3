/- R5's look at ranges: what a statement has itself. -/
import Derived.Test.YtgcplcffejbniaaGreatR5Twice
namespace Go.Proofs.YtgcplcffejbniaaGreat
open Go.RowKit Go.Maps

def St.w1 (x : St) : Bool := decide (x.kind = 2 ∧ (x.n < 1 ∨ 1024 < x.n))
def St.w3 (K : Known) (x : St) : Bool := decide (x.kind = 7) && (!x.a.bnd K || !x.b.bnd K)
def errB (b : Bool) (e : Int) : Int := if b = true then e else 0
/-- What is wrong with a statement itself. -/
def St.h5 (K : Known) (F : List Fn) (x : St) : Int := keepE (keepE (keepE (keepE (errB x.w1 1) (errB (twiceN x.cases []) 9)) (errB (x.w3 K) 42)) (x.a.cw F)) (x.b.cw F)
set_option maxRecDepth 100000 in
set_option maxHeartbeats 8000000 in
theorem head5_any (x : St) (aa ab ad ae ac : Option Addr) (na nb nd ne nc ca cb cd ce cc : Nat) (vk : Nat → Value) (F : List Fn) (vf : Value) (w0 : World) (hnc : nc = x.cases.length)
    (ba : B5Ok w0 x.a.args (.slice aa na ca)) (bb : B5Ok w0 x.b.args (.slice ab nb cb)) (ea : E5Ok w0 F vf x.a.args (.slice aa na ca)) (eb : E5Ok w0 F vf x.b.args (.slice ab nb cb))
    (fc : RowOf w0 (.slice ac nc cc) x.cases.length 2 (fun b o k => ∀ y, x.cases[k]? = some y → CsAt w0 b o y (vk k)))
    (W : World) (c : Nat) (vw kv : Value) (K : Known) (n : Int) (hB : Below w0.heap.size w0 W) (hcb : w0.heap.size ≤ c) (hK : W5At W c vw vf kv K n 0) (hKl : K.length ≤ 100000) :
    Calls Tryz.prog 29 #[ptrV c, stVal x (.slice aa na ca) (.slice ab nb cb) (.slice ad nd cd) (.slice ae ne ce) (.slice ac nc cc)] W (fun E W' => E = .returned (.tuple #[]) ∧ W5At W' c vw vf kv K n (x.h5 K F) ∧ WStep W W' c c c kv kv) := by
  have Hy := Lib.hid (And.intro ba (And.intro bb (And.intro ea (And.intro eb fc))))
  obtain ⟨W1, hW1⟩ : ∃ W1, W1 = W.alloc (.cells #[.int .i64 x.kind, .string x.name, .int .i64 x.n, .int .i64 x.a.kind, .int .i64 x.a.n, .string x.a.name, .slice aa na ca, .int .i64 x.b.kind, .int .i64 x.b.n, .string x.b.name, .slice ab nb cb, .slice ad nd cd, .slice ae ne ce, .slice ac nc cc] 43) := ⟨_, rfl⟩
  obtain ⟨D, hD⟩ : ∃ D, D = W.heap.size := ⟨_, rfl⟩
  have hb1 : Below W.heap.size W W1 := by rw [hW1]; exact (Below.refl _ _).alloc (Nat.le_refl _) _
  have hv1 : StAt W1 D 0 x (.slice aa na ca) (.slice ab nb cb) (.slice ad nd cd) (.slice ae ne ce) (.slice ac nc cc) := by rw [hW1, hD]; exact StAt.box _ _ _ _ _ _ _ _
  have q1 : D < W1.heap.size := block_lt_of_cell hv1.c0
  have qc := hK.in
  have HnotD : Hid (¬ WT c c c kv D) := not_wt (by omega) (by omega) (by omega) (fun j e => by have := (hK.own j e).2; omega)
  have H1 := Lib.hid (And.intro hb1 (And.intro hv1 (hK.later hb1)))
  have HB1 : Hid (Below w0.heap.size w0 W1) := hB.trans (hb1.mono hB.size)
  have HW1 := Lib.hid (And.intro hW1 hD)
  have HKl := Lib.hid hKl
  unfold stVal
  have Hnc := Lib.hid hnc
  clear ba bb ea eb fc hB hK hW1 hD hb1 hKl hnc
  go_enter Tryz.func29, Tryz.ntmps29
  go_upto_region 1 with (fail)
  rw [← HW1.out.2, ← HW1.out.1]
  obtain ⟨t1, ht1⟩ : ∃ t, t = x.w1 := ⟨_, rfl⟩
  have Ht1 := Lib.hid ht1
  clear ht1
  obtain ⟨i0, i1, i2, i3, i4, i5, i6, i7, i8, i9, i10, i11, i12, i13⟩ := hv1
  simp only [Nat.zero_add] at i1 i2 i3 i4 i5 i6 i7 i8 i9 i10 i11 i12 i13
  clear i1 i3 i4 i5 i6 i7 i8 i9 i10 i11 i12 i13
  go_cut [16] from 4 to 16 (fun b wc => b = .bool t1 ∧ wc = W1)
  case first =>
    by_cases h2 : x.kind = 2
    · have hq : (x.kind == 2) = true := by simp [h2]
      by_cases h3 : x.n < 1
      · have hq3 : decide (x.n < 1) = true := decide_eq_true h3
        have Hr : Hid (t1 = true) := by show _ = _; rw [Ht1.out]; unfold St.w1; exact decide_eq_true ⟨h2, .inl h3⟩
        clear h2 h3
        go_wp2_with fail
        go_meet
        case rel => exact ⟨by rw [Hr.out], rfl⟩
      · have hq3 : decide (x.n < 1) = false := decide_eq_false h3
        by_cases h4 : 1024 < x.n
        · have hq4 : decide (1024 < x.n) = true := decide_eq_true h4
          have Hr : Hid (t1 = true) := by show _ = _; rw [Ht1.out]; unfold St.w1; exact decide_eq_true ⟨h2, .inr h4⟩
          clear h2 h3 h4
          go_wp2_with fail
          go_meet
          case rel => exact ⟨by rw [Hr.out], rfl⟩
        · have hq4 : decide (1024 < x.n) = false := decide_eq_false h4
          have Hr : Hid (t1 = false) := by show _ = _; rw [Ht1.out]; unfold St.w1; exact decide_eq_false (by omega)
          clear h2 h3 h4
          go_wp2_with fail
          go_meet
          case rel => exact ⟨by rw [Hr.out], rfl⟩
    · have hq : (x.kind == 2) = false := by simp [h2]
      have Hr : Hid (t1 = false) := by show _ = _; rw [Ht1.out]; unfold St.w1; exact decide_eq_false (by omega)
      clear h2
      go_wp2_with fail
      go_meet
      case rel => exact ⟨by rw [Hr.out], rfl⟩
  case rest =>
    obtain ⟨rfl, hcw⟩ := hcut
    rw [hcw]
    clear hcw
    go_upto_if 16 with (fail)
    go_cut [] from 17 to 18 (fun wc => W5At wc c vw vf kv K n (errB t1 1) ∧ WStep W1 wc c c c kv kv)
    case first =>
      cases t1
      · go_wp2_with fail
        go_meet
        case rel => exact ⟨H1.out.2.2, .refl _ _ _ _ _⟩
      · go_wp2_with fail
        refine (wrong5_any W1 c vw vf kv K n 0 1 H1.out.2.2).mono ?_
        rintro E w2 ⟨rfl, hk2, hs2⟩
        have H2 := Lib.hid (And.intro hk2 hs2)
        clear hk2 hs2
        go_wp2_with fail
        go_meet
        case rel => exact ⟨H2.out.1, H2.out.2⟩
    case rest =>
      obtain ⟨hk2, hs2⟩ := hcut
      obtain ⟨V, hV⟩ : ∃ V : World, V = wc := ⟨_, rfl⟩
      subst hV
      obtain ⟨e1, he1⟩ : ∃ e, e = errB t1 1 := ⟨_, rfl⟩
      rw [← he1] at hk2
      have He1 := Lib.hid he1
      have hv2 := H1.out.2.1.oth hs2.oth q1 HnotD.out
      have H2 := Lib.hid (And.intro hk2 (And.intro hs2 hv2))
      have HB2 : Hid (Below w0.heap.size w0 V) := hs2.below5 H1.out.2.2 HB1.out hcb
      obtain ⟨i0, i1, i2, i3, i4, i5, i6, i7, i8, i9, i10, i11, i12, i13⟩ := hv2
      simp only [Nat.zero_add] at i13
      clear hk2 hs2 he1 i0 i1 i2 i3 i4 i5 i6 i7 i8 i9 i10 i11 i12
      go_wp2_with fail
      refine (twice5_any x.cases (.slice ac nc cc) vk w0 V Hy.out.2.2.2.2 HB2.out).mono ?_
      rintro E w3 ⟨rfl, hb3⟩
      obtain ⟨t2, ht2⟩ : ∃ t, t = twiceN x.cases [] := ⟨_, rfl⟩
      rw [← ht2]
      have Ht2 := Lib.hid ht2
      have H3 := Lib.hid (And.intro (H2.out.1.later hb3) ((H2.out.2.1).trans (WStep.of_below hb3)))
      clear ht2 hb3 i13
      go_upto_if 21 with (fail)
      go_cut [] from 22 to 23 (fun wc => W5At wc c vw vf kv K n (keepE e1 (errB t2 9)) ∧ WStep W1 wc c c c kv kv)
      case first =>
        cases t2
        · go_wp2_with fail
          go_meet
          case rel => exact ⟨by rw [show errB false 9 = 0 from rfl, keepE_nil]; exact H3.out.1, H3.out.2⟩
        · go_wp2_with fail
          refine (wrong5_any w3 c vw vf kv K n e1 9 H3.out.1).mono ?_
          rintro E w4 ⟨rfl, hk4, hs4⟩
          have H4 := Lib.hid (And.intro hk4 (H3.out.2.trans hs4))
          clear hk4 hs4
          go_wp2_with fail
          go_meet
          case rel => exact ⟨H4.out.1, H4.out.2⟩
      case rest =>
        obtain ⟨hk4, hs4⟩ := hcut
        obtain ⟨U, hU⟩ : ∃ U : World, U = wc := ⟨_, rfl⟩
        subst hU
        obtain ⟨e2, he2⟩ : ∃ e, e = keepE e1 (errB t2 9) := ⟨_, rfl⟩
        rw [← he2] at hk4
        have He2 := Lib.hid he2
        have H4 := Lib.hid (And.intro hk4 (And.intro hs4 (H1.out.2.1.oth hs4.oth q1 HnotD.out)))
        have HB4 : Hid (Below w0.heap.size w0 U) := hs4.below5 H1.out.2.2 HB1.out hcb
        clear hk4 hs4 he2
        obtain ⟨t3, ht3⟩ : ∃ t, t = x.w3 K := ⟨_, rfl⟩
        have Ht3 := Lib.hid ht3
        clear ht3
        obtain ⟨i0, i1, i2, i3, i4, i5, i6, i7, i8, i9, i10, i11, i12, i13⟩ := H4.out.2.2
        simp only [Nat.zero_add] at i1 i2 i3 i4 i5 i6 i7 i8 i9 i10 i11 i12 i13
        clear i1 i2 i11 i12 i13
        go_upto_region 5 with (fail)
        go_cut [40] from 24 to 40 (fun b wc => b = .bool t3 ∧ Below U.heap.size U wc)
        case first =>
          by_cases h7 : x.kind = 7
          · have hq : (x.kind == 7) = true := by simp [h7]
            have H7 := Lib.hid h7
            clear h7
            go_wp2_with fail
            refine (Hy.out.1 x.a rfl U c vw vf kv K n e2 HB4.out H4.out.1 HKl.out).mono ?_
            rintro E w5 ⟨rfl, hb5⟩
            obtain ⟨ta, hta⟩ : ∃ t, t = x.a.bnd K := ⟨_, rfl⟩
            rw [← hta]
            have Hta := Lib.hid hta
            have Hb5 := Lib.hid hb5
            have j7 := (hb5.cell (p := ⟨D, 7, none⟩) (Nat.lt_of_lt_of_le q1 H4.out.2.1.oth.size)).trans i7
            have j8 := (hb5.cell (p := ⟨D, 8, none⟩) (Nat.lt_of_lt_of_le q1 H4.out.2.1.oth.size)).trans i8
            have j9 := (hb5.cell (p := ⟨D, 9, none⟩) (Nat.lt_of_lt_of_le q1 H4.out.2.1.oth.size)).trans i9
            have j10 := (hb5.cell (p := ⟨D, 10, none⟩) (Nat.lt_of_lt_of_le q1 H4.out.2.1.oth.size)).trans i10
            clear hta hb5 i0 i3 i4 i5 i6 i7 i8 i9 i10
            cases ta
            · have Hr : Hid (t3 = true) := by show _ = _; rw [Ht3.out]; unfold St.w3; rw [← Hta.out, decide_eq_true H7.out]; rfl
              go_wp2_with fail
              go_meet
              case rel => exact ⟨by rw [Hr.out], Hb5.out⟩
            · go_wp2_with fail
              refine (Hy.out.2.1 x.b rfl w5 c vw vf kv K n e2 (HB4.out.trans (Hb5.out.mono HB4.out.size)) (H4.out.1.later Hb5.out) HKl.out).mono ?_
              rintro E w6 ⟨rfl, hb6⟩
              have Hr : Hid (t3 = !x.b.bnd K) := by show _ = _; rw [Ht3.out]; unfold St.w3; rw [← Hta.out, decide_eq_true H7.out]; simp
              obtain ⟨tb, htb⟩ : ∃ t, t = x.b.bnd K := ⟨_, rfl⟩
              rw [← htb] at Hr ⊢
              have Hb6 := Lib.hid (Hb5.out.trans (hb6.mono Hb5.out.size))
              clear hb6 htb j7 j8 j9 j10
              go_wp2_with fail
              go_meet
              case rel => exact ⟨by rw [Hr.out], Hb6.out⟩
          · have hq : (x.kind == 7) = false := by simp [h7]
            have Hr : Hid (t3 = false) := by show _ = _; rw [Ht3.out]; unfold St.w3; rw [decide_eq_false h7]; rfl
            clear h7
            go_wp2_with fail
            go_meet
            case rel => exact ⟨by rw [Hr.out], Below.refl _ _⟩
        case rest =>
          obtain ⟨rfl, hb5⟩ := hcut
          obtain ⟨U2, hU2⟩ : ∃ U : World, U = wc := ⟨_, rfl⟩
          subst hU2
          have H5 := Lib.hid (And.intro (H4.out.1.later hb5) (H4.out.2.1.trans (WStep.of_below hb5)))
          clear hb5 i0 i3 i4 i5 i6 i7 i8 i9 i10
          go_upto_if 40 with (fail)
          go_cut [] from 41 to 42 (fun wc => W5At wc c vw vf kv K n (keepE e2 (errB t3 42)) ∧ WStep W1 wc c c c kv kv)
          case first =>
            cases t3
            · go_wp2_with fail
              go_meet
              case rel => exact ⟨by rw [show errB false 42 = 0 from rfl, keepE_nil]; exact H5.out.1, H5.out.2⟩
            · go_wp2_with fail
              refine (wrong5_any U2 c vw vf kv K n e2 42 H5.out.1).mono ?_
              rintro E w6 ⟨rfl, hk6, hs6⟩
              have H6 := Lib.hid (And.intro hk6 (H5.out.2.trans hs6))
              clear hk6 hs6
              go_wp2_with fail
              go_meet
              case rel => exact ⟨H6.out.1, H6.out.2⟩
          case rest =>
            obtain ⟨hk6, hs6⟩ := hcut
            obtain ⟨Z, hZ⟩ : ∃ U : World, U = wc := ⟨_, rfl⟩
            subst hZ
            obtain ⟨e3, he3⟩ : ∃ e, e = keepE e2 (errB t3 42) := ⟨_, rfl⟩
            rw [← he3] at hk6
            have He3 := Lib.hid he3
            have H6 := Lib.hid (And.intro hk6 hs6)
            have HB6 : Hid (Below w0.heap.size w0 Z) := hs6.below5 H1.out.2.2 HB1.out hcb
            obtain ⟨i0, i1, i2, i3, i4, i5, i6, i7, i8, i9, i10, i11, i12, i13⟩ := H1.out.2.1.oth hs6.oth q1 HnotD.out
            simp only [Nat.zero_add] at i3 i4 i5 i6
            clear i0 i1 i2 i7 i8 i9 i10 i11 i12 i13 hk6 hs6 he3
            go_wp2_with fail
            refine (Hy.out.2.2.1 x.a rfl Z c vw kv K n e3 HB6.out hcb H6.out.1).mono ?_
            rintro E w7 ⟨rfl, hk7, hs7⟩
            have hs17 := H6.out.2.trans hs7
            have H7 := Lib.hid (And.intro hk7 hs17)
            have HB7 : Hid (Below w0.heap.size w0 w7) := hs17.below5 H1.out.2.2 HB1.out hcb
            obtain ⟨j0, j1, j2, j3, j4, j5, j6, j7, j8, j9, j10, j11, j12, j13⟩ := H1.out.2.1.oth hs17.oth q1 HnotD.out
            simp only [Nat.zero_add] at j7 j8 j9 j10
            clear j0 j1 j2 j3 j4 j5 j6 j11 j12 j13 hk7 hs7 hs17 i3 i4 i5 i6
            go_wp2_with fail
            refine (Hy.out.2.2.2.1 x.b rfl w7 c vw kv K n _ HB7.out hcb H7.out.1).mono ?_
            rintro E w8 ⟨rfl, hk8, hs8⟩
            have H8 := Lib.hid (And.intro hk8 (H7.out.2.trans hs8))
            clear hk8 hs8 j7 j8 j9 j10
            go_wp2_with fail
            refine bodyPost_end (results_none rfl _ _ _) rfl ?_
            refine ⟨rfl, ?_, (WStep.of_below H1.out.1).trans H8.out.2⟩
            have h := H8.out.1
            rw [He3.out, He2.out, He1.out, Ht1.out, Ht2.out, Ht3.out] at h
            exact h
end Go.Proofs.YtgcplcffejbniaaGreat
