/- R4's look at names: what a statement has itself. -/
import Derived.Test.YtgcplcffejbniaaGreatN4Expr
namespace Go.Proofs.YtgcplcffejbniaaGreat
open Go.RowKit Go.Maps

/-- What is wrong ahead of a statement's expressions. -/
def St.nlead4 (K : Known) (loops : Int) (x : St) : Int := if x.kind = 8 then (if loops = 0 then 32 else 0) else if x.kind = 2 then 0 else x.nlead K
theorem St.nfirst_eq4 (K : Known) (G : List ByteArray) (loops : Int) (x : St) : x.nfirst K G loops = if x.nlead4 K loops ≠ 0 then x.nlead4 K loops else if x.kind = 8 ∨ x.kind = 2 then 0 else if x.a.nerr K G ≠ 0 then x.a.nerr K G else if x.kind = 4 ∨ x.kind = 7 then x.b.nerr K G else 0 := by
  unfold St.nfirst St.nlead4
  by_cases h8 : x.kind = 8
  · rw [if_pos h8, if_pos h8, if_pos (Or.inl h8)]
    split <;> simp_all
  · by_cases h2 : x.kind = 2
    · rw [if_neg h8, if_pos h2, if_neg h8, if_pos h2, if_pos (Or.inr h2)]; rfl
    · rw [if_neg h8, if_neg h2, if_neg h8, if_neg h2, if_neg (show ¬ (x.kind = 8 ∨ x.kind = 2) from fun h => h.elim h8 h2)]
set_option maxRecDepth 100000 in
set_option maxHeartbeats 4000000 in
theorem r4head_any (x : St) (aa ab ad ae ac : Option Addr) (na nb nd ne nc ca cb cd ce cc : Nat) (F : List Fn) (vf : Value) (k : Nat) (w0 : World)
    (fa : R4ExprOk w0 F vf k x.a.args (.slice aa na ca)) (fb : R4ExprOk w0 F vf k x.b.args (.slice ab nb cb))
    (W : World) (c bs : Nat) (vw kv : Value) (K : Known) (n loops : Int) (C : List Int) (hB : Below w0.heap.size w0 W) (hcb : w0.heap.size ≤ bs) (hK : RAt W c bs vw vf kv K (k : Int) n loops 0 F.length C) (hKl : K.length ≤ 100000) :
    Calls Tryz.prog 91 #[ptrV c, stVal x (.slice aa na ca) (.slice ab nb cb) (.slice ad nd cd) (.slice ae ne ce) (.slice ac nc cc)] W (fun E W' => E = .returned (.tuple #[]) ∧
      R4EPost W W' c bs vw vf kv K (k : Int) n loops (x.nfirst K (gAt F k) loops) F.length C (gAt F k) x.nownc) := by
  have Hab := Lib.hid (And.intro fa fb)
  have HB := Lib.hid hB
  have HKl := Lib.hid hKl
  obtain ⟨G, hG⟩ : ∃ G, G = gAt F k := ⟨_, rfl⟩
  rw [← hG]
  have HG := Lib.hid hG
  obtain ⟨N, hN⟩ : ∃ N, N = F.length := ⟨_, rfl⟩
  rw [← hN]
  rw [← hN] at hK
  have HN := Lib.hid hN
  obtain ⟨W1, hW1⟩ : ∃ W1, W1 = W.alloc (.cells #[.int .i64 x.kind, .string x.name, .int .i64 x.n, .int .i64 x.a.kind, .int .i64 x.a.n, .string x.a.name, .slice aa na ca, .int .i64 x.b.kind, .int .i64 x.b.n, .string x.b.name, .slice ab nb cb, .slice ad nd cd, .slice ae ne ce, .slice ac nc cc] 43) := ⟨_, rfl⟩
  have hb1 : Below W.heap.size W W1 := by rw [hW1]; exact (Below.refl _ _).alloc (Nat.le_refl _) _
  have hv1 : StAt W1 W.heap.size 0 x (.slice aa na ca) (.slice ab nb cb) (.slice ad nd cd) (.slice ae ne ce) (.slice ac nc cc) := by rw [hW1]; exact StAt.box _ _ _ _ _ _ _ _
  have hk1 := hK.later hb1
  have q1 : W.heap.size < W1.heap.size := block_lt_of_cell hv1.c0
  have ql := hK.lt
  have qc := hK.in
  have HnotD : Hid (¬ WT c bs bs kv W.heap.size) := not_wt (by omega) (by omega) (by omega) (fun j e => (hK.own j e).2)
  have H1 := Lib.hid (And.intro hb1 (And.intro hv1 hk1))
  have HB1 : Hid (Below w0.heap.size w0 W1) := hB.trans (hb1.mono hB.size)
  have HW1 := Lib.hid hW1
  unfold stVal
  clear fa fb hB hK hG hN hW1 hb1 hv1 hk1 hKl
  go_enter Tryz.func91, Tryz.ntmps91
  go_upto_region 1 with (fail)
  rw [← HW1.out]
  obtain ⟨i0, i1, i2, i3, i4, i5, i6, i7, i8, i9, i10, i11, i12, i13⟩ := H1.out.2.1
  simp only [Nat.zero_add] at i1 i2 i3 i4 i5 i6 i7 i8 i9 i10 i11 i12 i13
  clear i2 i3 i4 i5 i6 i7 i8 i9 i10 i11 i12 i13
  go_upto_block 0 with (fail)
  go_cut [1, 5] (fun _ _ wc => RAt wc c bs vw vf kv K (k : Int) n loops (x.nlead4 K loops) N C ∧ WStep W1 wc c bs bs kv kv)
  case first =>
    have c4 := H1.out.2.2.c4
    by_cases h3 : x.kind = 3
    · have hq3 : (x.kind == 3) = true := by simp [h3]
      obtain ⟨e, he⟩ : ∃ e, e = needE K x.name false := ⟨_, rfl⟩
      obtain ⟨z, hz⟩ : ∃ z, z = kindOf K x.name := ⟨_, rfl⟩
      have Hlead : Hid (x.nlead4 K loops = if e ≠ 0 then e else if z = 4 then 31 else 0) := by show _ = _; unfold St.nlead4 St.nlead; rw [if_neg (by omega), if_neg (by omega), if_pos h3, ← he, ← hz]
      have He := Lib.hid he
      have Hz := Lib.hid hz
      have hzm := kindOf_mem H1.out.2.2.kinds x.name
      rw [← hz] at hzm
      have Hzm := Lib.hid hzm
      clear h3 he hz hzm c4
      go_wp2_with fail
      refine (ruses_any W1 c bs vw vf kv K (k : Int) n loops 0 N C x.name false H1.out.2.2 HKl.out).mono ?_
      rintro E w2 ⟨rfl, h2, s2⟩
      rw [keepE_zero, ← He.out] at h2
      have H2 := Lib.hid (And.intro h2 s2)
      obtain ⟨j0, j1, j2, j3, j4, j5, j6, j7, j8, j9, j10, j11, j12, j13⟩ := H1.out.2.1.oth s2.oth q1 HnotD.out
      simp only [Nat.zero_add] at j1 j2 j3 j4 j5 j6 j7 j8 j9 j10 j11 j12 j13
      clear h2 s2 j2 j3 j4 j5 j6 j7 j8 j9 j10 j11 j12 j13 i0 i1
      go_wp2_with fail
      refine (rkind_any w2 c bs vw vf kv K (k : Int) n loops e N C x.name H2.out.1 HKl.out).mono ?_
      rintro E w3 ⟨rfl, hw⟩
      rw [← hw, ← Hz.out]
      clear hw
      by_cases hz4 : z = 4
      · have Hlead2 : Hid (x.nlead4 K loops = keepE e 31) := by show _ = _; rw [Hlead.out, if_pos hz4]; unfold keepE; split <;> simp_all
        subst hz4
        unfold kb
        go_wp2_with fail
        refine (rwrong_any w2 c bs vw vf kv K (k : Int) n loops e N C 31 H2.out.1).mono ?_
        rintro E w4 ⟨rfl, h4, s4⟩
        have H4 := Lib.hid (And.intro h4 (H2.out.2.trans s4))
        clear h4 s4
        go_wp2_with fail
        go_meet
        case rel => exact ⟨by rw [Hlead2.out]; exact H4.out.1, H4.out.2⟩
      · have Hlead2 : Hid (x.nlead4 K loops = e) := by show _ = _; rw [Hlead.out, if_neg hz4]; split <;> simp_all
        have hkb : (kb z == 108) = false := by
          rcases Hzm.out with h | h
          · rw [h]; rfl
          · obtain rfl | rfl | rfl : z = 1 ∨ z = 2 ∨ z = 3 := by omega
            all_goals rfl
        clear hz4
        go_wp2_with fail
        go_meet
        case rel => exact ⟨by rw [Hlead2.out]; exact H2.out.1, H2.out.2⟩
    have hq3 : (x.kind == 3) = false := by simp [h3]
    by_cases h4 : x.kind = 4
    · have hq4 : (x.kind == 4) = true := by simp [h4]
      have Hlead : Hid (x.nlead4 K loops = needE K x.name true) := by show _ = _; unfold St.nlead4 St.nlead; rw [if_neg (by omega), if_neg (by omega), if_neg h3, if_pos h4]
      clear h3 h4 c4
      go_wp2_with fail
      refine (ruses_any W1 c bs vw vf kv K (k : Int) n loops 0 N C x.name true H1.out.2.2 HKl.out).mono ?_
      rintro E w2 ⟨rfl, h2, s2⟩
      rw [keepE_zero, ← Hlead.out] at h2
      have H2 := Lib.hid (And.intro h2 s2)
      clear h2 s2
      go_wp2_with fail
      go_meet
      case rel => exact H2.out
    have hq4 : (x.kind == 4) = false := by simp [h4]
    by_cases h8 : x.kind = 8
    · have hq8 : (x.kind == 8) = true := by simp [h8]
      by_cases hl : loops = 0
      · have hql : (loops == 0) = true := by simp [hl]
        have Hlead : Hid (x.nlead4 K loops = 32) := by show _ = _; unfold St.nlead4; rw [if_pos h8, if_pos hl]
        clear h3 h4 h8 hl
        go_wp2_with fail
        refine (rwrong_any W1 c bs vw vf kv K (k : Int) n loops 0 N C 32 H1.out.2.2).mono ?_
        rintro E w2 ⟨rfl, h2, s2⟩
        rw [keepE_zero, ← Hlead.out] at h2
        have H2 := Lib.hid (And.intro h2 s2)
        clear h2 s2
        go_wp2_with fail
        go_meet
        case rel => exact H2.out
      · have hql : (loops == 0) = false := by simp [hl]
        have Hlead : Hid (x.nlead4 K loops = 0) := by show _ = _; unfold St.nlead4; rw [if_pos h8, if_neg hl]
        clear h3 h4 h8 hl
        go_wp2_with fail
        go_meet
        case rel => exact ⟨by rw [Hlead.out]; exact H1.out.2.2, .refl _ _ _ _ _⟩
    · have hq8 : (x.kind == 8) = false := by simp [h8]
      have Hlead : Hid (x.nlead4 K loops = 0) := by show _ = _; unfold St.nlead4 St.nlead; rw [if_neg h8, if_neg h3, if_neg h4]; split <;> rfl
      clear h3 h4 h8 c4
      go_wp2_with fail
      go_meet
      case rel => exact ⟨by rw [Hlead.out]; exact H1.out.2.2, .refl _ _ _ _ _⟩
  case rest =>
    obtain ⟨hK1, hs1⟩ := hcut
    obtain ⟨V, hV⟩ : ∃ V : World, V = wc := ⟨_, rfl⟩
    subst hV
    obtain ⟨e, he⟩ : ∃ e, e = x.nlead4 K loops := ⟨_, rfl⟩
    rw [← he] at hK1
    have Hfirst : Hid (x.nfirst K G loops = if e ≠ 0 then e else if x.kind = 8 ∨ x.kind = 2 then 0 else if x.a.nerr K G ≠ 0 then x.a.nerr K G else if x.kind = 4 ∨ x.kind = 7 then x.b.nerr K G else 0) := by show _ = _; rw [St.nfirst_eq4, ← he]
    have HBV : Hid (Below w0.heap.size w0 V) := hs1.below4 H1.out.2.2 HB1.out hcb
    have hvV := H1.out.2.1.oth hs1.oth q1 HnotD.out
    have qV := hs1.oth.size
    have HK1 := Lib.hid (And.intro hK1 hs1)
    have c6 := hK1.c6
    obtain ⟨j0, j1, j2, j3, j4, j5, j6, j7, j8, j9, j10, j11, j12, j13⟩ := hvV
    simp only [Nat.zero_add] at j1 j2 j3 j4 j5 j6 j7 j8 j9 j10 j11 j12 j13
    have Hown : Hid (x.nownc = (if x.kind = 8 ∨ x.kind = 2 then [] else x.a.ncalls) ++ (if x.kind = 4 ∨ x.kind = 7 then x.b.ncalls else [])) := rfl
    clear i0 i1 hK1 hs1 he j1 j2 j11 j12 j13
    by_cases h82 : x.kind = 8 ∨ x.kind = 2
    · have hq4 : (x.kind == 4) = false := by simp; omega
      have hq7 : (x.kind == 7) = false := by simp; omega
      have Hr : Hid (x.nfirst K G loops = e ∧ x.nownc = []) := by
        constructor
        · rw [Hfirst.out, if_pos h82]; split <;> simp_all
        · rw [Hown.out, if_pos h82, if_neg (by omega)]; rfl
      have hor : (x.kind != 8) = true ∧ (x.kind != 2) = false ∨ (x.kind != 8) = false := by
        rcases h82 with h | h
        · exact .inr (by simp [h])
        · exact .inl ⟨by simp [h], by simp [h]⟩
      clear h82
      rcases hor with ⟨hq8, hq2⟩ | hq8
      all_goals
        go_wp2_with fail
        refine bodyPost_end (results_none rfl _ _ _) rfl ?_
        exact ⟨rfl, C, by rw [Hr.out.1]; exact HK1.out.1, (WStep.of_below H1.out.1).trans HK1.out.2, fun _ z => by rw [Hr.out.2]; simp [idxs]⟩
    · have hq8 : (x.kind != 8) = true := by simp; omega
      have hq2 : (x.kind != 2) = true := by simp; omega
      by_cases hez : e = 0
      · subst hez
        have Hr : Hid (x.nfirst K G loops = if x.a.nerr K G ≠ 0 then x.a.nerr K G else if x.kind = 4 ∨ x.kind = 7 then x.b.nerr K G else 0) := by show _ = _; rw [Hfirst.out, if_neg (by decide), if_neg h82]
        have Hr2 : Hid (x.nownc = x.a.ncalls ++ (if x.kind = 4 ∨ x.kind = 7 then x.b.ncalls else [])) := by show _ = _; rw [Hown.out, if_neg h82]
        clear h82
        go_wp2_with fail
        refine (Hab.out.1 x.a rfl V c bs vw kv K n loops C HBV.out hcb (by rw [← HN.out]; exact HK1.out.1) HKl.out).mono ?_
        rintro E w5 ⟨rfl, C5, hK5, hs5, hC5⟩
        rw [← HG.out] at hK5 hC5
        rw [← HN.out] at hK5
        obtain ⟨ea, hea⟩ : ∃ z, z = x.a.nerr K G := ⟨_, rfl⟩
        rw [← hea] at hK5 hC5
        have Hea := Lib.hid hea
        have hs15 := HK1.out.2.trans hs5
        have HB5 : Hid (Below w0.heap.size w0 w5) := hs15.below4 H1.out.2.2 HB1.out hcb
        have H5 := Lib.hid (And.intro hK5 (And.intro hs15 hC5))
        have k6 := hK5.c6
        obtain ⟨k0, k1, k2, k3, k4, k5, k66, k7, k8, k9, k10, k11, k12, k13⟩ := H1.out.2.1.oth hs15.oth q1 HnotD.out
        simp only [Nat.zero_add] at k1 k2 k3 k4 k5 k66 k7 k8 k9 k10 k11 k12 k13
        have q5 := hs15.oth.size
        clear hK5 hs5 hC5 hea hs15 k1 k2 k3 k4 k5 k66 k11 k12 k13 j0 j3 j4 j5 j6 j7 j8 j9 j10 c6
        by_cases h47 : x.kind = 4 ∨ x.kind = 7
        · have hor : (x.kind == 4) = true ∨ (x.kind == 4) = false ∧ (x.kind == 7) = true := by
            rcases h47 with h | h
            · exact .inl (by simp [h])
            · exact .inr ⟨by simp [h], by simp [h]⟩
          have Hr3 : Hid (x.nfirst K G loops = if ea ≠ 0 then ea else x.b.nerr K G) := by show _ = _; rw [Hr.out, if_pos h47, ← Hea.out]
          have Hr4 : Hid (x.nownc = x.a.ncalls ++ x.b.ncalls) := by show _ = _; rw [Hr2.out, if_pos h47]
          clear h47
          by_cases hez : ea = 0
          · subst hez
            have Hr5 : Hid (x.nfirst K G loops = x.b.nerr K G) := by show _ = _; rw [Hr3.out, if_neg (by decide)]
            rcases hor with hq4 | ⟨hq4, hq7⟩
            all_goals
              go_wp2_with fail
              refine (Hab.out.2 x.b rfl w5 c bs vw kv K n loops C5 HB5.out hcb (by rw [← HN.out]; exact H5.out.1) HKl.out).mono ?_
              rintro E w6 ⟨rfl, C6, hK6, hs6, hC6⟩
              rw [← HG.out] at hK6 hC6
              rw [← HN.out] at hK6
              have H6 := Lib.hid (And.intro hK6 (And.intro (H5.out.2.1.trans hs6) hC6))
              clear hK6 hs6 hC6
              go_wp2_with fail
              refine bodyPost_end (results_none rfl _ _ _) rfl ?_
              exact ⟨rfl, C6, by rw [Hr5.out]; exact H6.out.1, (WStep.of_below H1.out.1).trans H6.out.2.1, fun h z => by rw [H6.out.2.2 (by rw [← Hr5.out]; exact h) z, H5.out.2.2 (by first | exact trivial | rfl) z, Hr4.out, idxs_append, or_assoc]⟩
          · have hq : (ea == 0) = false := by simp [hez]
            have Hr5 : Hid (x.nfirst K G loops = ea ∧ ea ≠ 0) := by constructor; rw [Hr3.out, if_pos hez]; exact hez
            clear hez
            rcases hor with hq4 | ⟨hq4, hq7⟩
            all_goals
              go_wp2_with fail
              refine bodyPost_end (results_none rfl _ _ _) rfl ?_
              exact ⟨rfl, C5, by rw [Hr5.out.1]; exact H5.out.1, (WStep.of_below H1.out.1).trans H5.out.2.1, fun h => absurd (by rw [← Hr5.out.1]; exact h) Hr5.out.2⟩
        · have hq4 : (x.kind == 4) = false := by simp; omega
          have hq7 : (x.kind == 7) = false := by simp; omega
          have Hr3 : Hid (x.nfirst K G loops = ea) := by show _ = _; rw [Hr.out, if_neg h47, ← Hea.out]; split <;> simp_all
          have Hr4 : Hid (x.nownc = x.a.ncalls) := by show _ = _; rw [Hr2.out, if_neg h47, List.append_nil]
          clear h47
          go_wp2_with fail
          refine bodyPost_end (results_none rfl _ _ _) rfl ?_
          exact ⟨rfl, C5, by rw [Hr3.out]; exact H5.out.1, (WStep.of_below H1.out.1).trans H5.out.2.1, fun h z => by rw [H5.out.2.2 (by rw [← Hr3.out]; exact h) z, Hr4.out]⟩
      · have hq : (e == 0) = false := by simp [hez]
        have Hr : Hid (x.nfirst K G loops = e ∧ e ≠ 0) := by constructor; rw [Hfirst.out, if_pos hez]; exact hez
        clear hez
        have hor : (x.kind == 4) = true ∨ (x.kind == 4) = false ∧ (x.kind == 7) = true ∨ (x.kind == 4) = false ∧ (x.kind == 7) = false := by
          cases h4 : (x.kind == 4)
          · cases h7 : (x.kind == 7)
            · exact .inr (.inr ⟨rfl, rfl⟩)
            · exact .inr (.inl ⟨rfl, rfl⟩)
          · exact .inl rfl
        clear h82
        rcases hor with hq4 | ⟨hq4, hq7⟩ | ⟨hq4, hq7⟩
        all_goals
          go_wp2_with fail
          refine bodyPost_end (results_none rfl _ _ _) rfl ?_
          exact ⟨rfl, C, by rw [Hr.out.1]; exact HK1.out.1, (WStep.of_below H1.out.1).trans HK1.out.2, fun h => absurd (by rw [← Hr.out.1]; exact h) Hr.out.2⟩
end Go.Proofs.YtgcplcffejbniaaGreat
