/- mean: rounds, sums, expressions. -/
import Derived.Test.YtgcplcffejbniaaMnSpec
import Derived.Test.YtgcplcffejbniaaHeldZ
import Derived.Deep.RegionHeld3
import Derived.IntWalk
namespace Go.Proofs.Ytgcplcffejbniaa
open Go.RowKit Go.Maps

set_option maxRecDepth 100000 in
set_option maxHeartbeats 2000000 in
theorem stop_any (w : World) (r : Nat) (vw vf : Value) (most n e x : Int) (h : RnAt w r vw vf most n e) :
    Calls Try.prog 76 #[ptrV r, .int .i64 x] w (fun E w' => E = .returned (.tuple #[]) ∧ RnAt w' r vw vf most n x ∧ Oth (· = r) w w') := by
  have c4 := h.c4
  have f4 := h.f 4
  have H := Lib.hid h
  clear h
  go_enter Try.func76, Try.ntmps76
  go_wp2_with fail
  refine bodyPost_end (results_none rfl _ _ _) rfl ?_
  exact ⟨rfl, H.out.putE x, (Oth.refl (· = r) w).set (p := ⟨r, 4, none⟩) rfl _⟩
set_option maxRecDepth 100000 in
set_option maxHeartbeats 2000000 in
theorem round_any (w : World) (r : Nat) (vw vf : Value) (most n e : Int) (h : RnAt w r vw vf most n e) (hn : 0 ≤ n) (hm : most ≤ 9223372036854775807) :
    Calls Try.prog 77 #[ptrV r] w (fun E w' => E = .returned (.bool (decide (n < most))) ∧ RnAt w' r vw vf most (if n < most then n + 1 else n) (if n < most then e else 53) ∧ Oth (· = r) w w') := by
  have c2 := h.c2
  have c3 := h.c3
  have H := Lib.hid h
  clear h
  go_enter Try.func77, Try.ntmps77
  by_cases hlt : n < most
  · have hd1 : decide (most ≤ n) = false := decide_eq_false (by omega)
    have hd2 : decide (n ≥ most) = false := decide_eq_false (by omega)
    have hno : ¬ most ≤ n := by omega
    have Hl := Lib.hid hlt
    have f2 := H.out.f 2
    have hw1 : wrap64 (n + 1) = n + 1 := by unfold wrap64; omega
    have hw2 : IntKind.i64.wrap (n + 1) = n + 1 := IntWalk.i64_in _ (by omega)
    clear hlt
    go_wp2_with (go_quiet (fail))
    have hbd := below_draws w nq
    have H2 := Lib.hid (And.intro (H.out.later hbd) hbd)
    go_ret
    have h := H2.out.1.putN (n + 1)
    refine ⟨by first | rfl | (rw [decide_eq_true (by have := Hl.out; omega)]; rfl), ?_, (Oth.of_below H2.out.2).trans ((Oth.refl (· = r) _).set (p := ⟨r, 2, none⟩) rfl _)⟩
    first | exact h | (rw [if_pos (by have := Hl.out; omega), if_pos (by have := Hl.out; omega)]; exact h)
  · have hd1 : decide (most ≤ n) = true := decide_eq_true (by omega)
    have hd2 : decide (n ≥ most) = true := decide_eq_true (by omega)
    have hyes : most ≤ n := by omega
    have Hl := Lib.hid hlt
    clear hlt
    go_wp2_with (go_quiet (fail))
    have hbd := below_draws w nq
    have H2 := Lib.hid (And.intro (H.out.later hbd) hbd)
    clear hbd c2 c3
    go_wp2_with fail
    refine (stop_any _ r vw vf most n e 53 H2.out.1).mono ?_
    rintro E w3 ⟨rfl, h3, hO3⟩
    have H3 := Lib.hid (And.intro h3 hO3)
    clear h3 hO3
    go_wp2_with fail
    go_ret
    refine ⟨by first | rfl | (rw [decide_eq_false (by have := Hl.out; omega)]; rfl), ?_, (Oth.of_below H2.out.2).trans H3.out.2⟩
    first | exact H3.out.1 | (rw [if_neg (by have := Hl.out; omega), if_neg (by have := Hl.out; omega)]; exact H3.out.1)
set_option maxRecDepth 100000 in
set_option maxHeartbeats 1000000 in
theorem twoAdd_any (w : World) (c : Nat) (x y : Int) : Calls Try.prog 129 #[ptrV c, .int .i64 7, .int .i64 x, .int .i64 y] w (Gives (.int .i64 (w64 (x + y))) w) := by
  go_enter Try.func129, Try.ntmps129
  go_wp2_with fail
  go_ret
  exact ⟨rfl, Below.refl _ _⟩
/-- An expression in memory, asked for by its address. -/
def MxOk (w0 : World) (l : List Ex) (v : Value) : Prop := ∀ x : Ex, x.args = l → x.simp → ∀ (b o : Nat), ExAt w0 b o x v → b < w0.heap.size → ∀ (W : World) (c r mb : Nat) (vw vf : Value) (most : Int) (N : List ByteArray) (m : MS), Below w0.heap.size w0 W → FrAt W c r mb vw vf most N m → m.e = 0 →
  Calls Try.prog 109 #[ptrV c, .pointer (some ⟨b, o, none⟩)] W (Gives (.int .i64 (evS m.V x)) W)
set_option maxRecDepth 100000 in
set_option maxHeartbeats 4000000 in
theorem mexpr_any (l : List Ex) (v : Value) (w0 : World) (h : ExsIn w0 l v) : MxOk w0 l v := by
  induction h with
  | mk l v vs h each ih =>
  intro x hx hs b o hat hb W c r mb vw vf most N m hB hF he
  obtain ⟨a, cap, rfl, hncap, hcap⟩ := h.form
  obtain ⟨k, hk⟩ : ∃ k, k = l.length := ⟨_, rfl⟩
  have Hrow : Hid (RowOf w0 (.slice a k cap) l.length 4 (fun b o i => ∀ x, l[i]? = some x → ExAt w0 b o x (vs i))) := by rw [hk]; exact h
  have Hih := Lib.hid (And.intro ih each)
  obtain ⟨i0, i1, i2, i3⟩ := hat.later hB hb
  rw [← hk] at i3
  obtain ⟨hn64, hns, hkind⟩ := (Ex.simp_eq x).1 hs
  have Hx := Lib.hid (And.intro hx (And.intro hn64 (And.intro hns hs)))
  have H := Lib.hid (And.intro hF (And.intro hB he))
  have c0 := hF.c0
  have c1 := hF.c1
  have Hk := Lib.hid hk
  clear h ih each hat hn64 hns hx hs hF hB he hk
  go_enter Try.func109, Try.ntmps109
  rcases hkind with h1 | h2 | ⟨h7, hl2, hsl⟩
  · have hq : (x.kind == 1) = true := by simp [h1]
    have Hr : Hid (evS m.V x = x.n) := by show _ = _; rw [evS_eq, if_pos h1]
    clear h1
    go_wp2_with fail
    go_ret
    exact ⟨by rw [Hr.out]; rfl, Below.refl _ _⟩
  · have hq : (x.kind == 1) = false := by simp [h2]
    have hq2 : (x.kind == 2) = true := by simp [h2]
    have Hr : Hid (evS m.V x = m.V x.name) := by show _ = _; rw [evS_eq, if_neg (by omega), if_pos h2]
    clear h2
    go_upto_region 5 with (fail)
    refine wp_region_held (S := fun w => w.cell? ⟨c, 1, none⟩ = some (.map (some mb)) ∧ w.cell? ⟨b, o + 2, none⟩ = some (.string x.name) ∧ (Instr.lookup 125 (.map (some mb)) (.string x.name) false).run Try.prog w = .ok (.int .i64 (m.V x.name)) w) rfl ?_
    change wpAnyH _ _ _ _ _ _ _ _ W.drew
    obtain ⟨W0, hW0⟩ : ∃ W0, W0 = W.drew := ⟨_, rfl⟩
    rw [← hW0]
    have hb0 : Below W.heap.size W W0 := by rw [hW0]; exact (Below.refl _ _).drew
    have Hb : Hid (W0.cell? ⟨c, 1, none⟩ = some (.map (some mb)) ∧ W0.cell? ⟨b, o + 2, none⟩ = some (.string x.name) ∧ (Instr.lookup 125 (.map (some mb)) (.string x.name) false).run Try.prog W0 = .ok (.int .i64 (m.V x.name)) W0) :=
      ⟨(hb0.cell (p := ⟨c, 1, none⟩) H.out.1.in).trans c1, (hb0.cell (p := ⟨b, o + 2, none⟩) (Nat.lt_of_lt_of_le hb H.out.2.1.size)).trans i2, (H.out.1.later hb0).map.look x.name Hx.out.2.2.1 _ rfl⟩
    have Hb0 := Lib.hid hb0
    clear hb0 hW0 c0 c1 i0 i1 i2 i3
    refine wpAnyH_take (i := 0) (by simp only [List.getElem?_toArray, List.getElem?_cons_zero]; rfl) (by kernel_rfl) (by kernel_rfl) (by kernel_rfl) (by intro _ _ _ h; exact h) (Or.inl ⟨by rfl, fun w hw => by (obtain ⟨d0, d1, d2⟩ := hw; go_simp; try rfl)⟩) Hb.out ?_
    refine wpAnyH_take (i := 1) (by simp only [List.getElem?_toArray, List.getElem?_cons_succ, List.getElem?_cons_zero]; rfl) (by kernel_rfl) (by kernel_rfl) (by kernel_rfl) (by intro _ _ _ h; exact h) (Or.inl ⟨by rfl, fun w hw => by (obtain ⟨d0, d1, d2⟩ := hw; go_simp; try rfl)⟩) Hb.out ?_
    go_frame
    refine wpAnyH_take (i := 2) (by simp only [List.getElem?_toArray, List.getElem?_cons_succ, List.getElem?_cons_zero]; rfl) (by kernel_rfl) (by kernel_rfl) (by kernel_rfl) (by intro _ _ _ h; exact h) (Or.inl ⟨by rfl, fun w hw => by (obtain ⟨d0, d1, d2⟩ := hw; go_simp; try rfl)⟩) Hb.out ?_
    refine wpAnyH_take (i := 3) (by simp only [List.getElem?_toArray, List.getElem?_cons_succ, List.getElem?_cons_zero]; rfl) (by kernel_rfl) (by kernel_rfl) (by kernel_rfl) (by intro _ _ _ h; exact h) (Or.inl ⟨by rfl, fun w hw => by (obtain ⟨d0, d1, d2⟩ := hw; go_simp; try rfl)⟩) Hb.out ?_
    go_frame
    refine wpAnyH_take (i := 4) (by simp only [List.getElem?_toArray, List.getElem?_cons_succ, List.getElem?_cons_zero]; rfl) (by kernel_rfl) (by kernel_rfl) (by kernel_rfl) (by intro _ _ _ h; exact h) (Or.inl ⟨by rfl, fun w hw => by (obtain ⟨d0, d1, d2⟩ := hw; go_simp; try rfl)⟩) Hb.out ?_
    refine wpAnyH_take (i := 5) (by simp only [List.getElem?_toArray, List.getElem?_cons_succ, List.getElem?_cons_zero]; rfl) (by kernel_rfl) (by kernel_rfl) (by kernel_rfl) (by intro _ _ _ h; exact h) (Or.inl ⟨by rfl, fun w hw => by (obtain ⟨d0, d1, d2⟩ := hw; go_simp; try rfl)⟩) Hb.out ?_
    go_frame
    refine wpAnyH_take (i := 6) (by simp only [List.getElem?_toArray, List.getElem?_cons_succ, List.getElem?_cons_zero]; rfl) (by kernel_rfl) (by kernel_rfl) (by kernel_rfl) (by intro _ _ _ h; exact h) (Or.inl ⟨by rfl, fun w hw => by (obtain ⟨d0, d1, d2⟩ := hw; go_simp; try rfl)⟩) Hb.out ?_
    refine wpAnyH_take (i := 7) (by simp only [List.getElem?_toArray, List.getElem?_cons_succ, List.getElem?_cons_zero]; rfl) (by kernel_rfl) (by kernel_rfl) (by kernel_rfl) (by intro _ _ _ h; exact h) (Or.inl ⟨by rfl, fun w hw => by (obtain ⟨d0, d1, d2⟩ := hw; go_simp; try rfl)⟩) Hb.out ?_
    go_frame
    refine wpAnyH_take (i := 8) (by simp only [List.getElem?_toArray, List.getElem?_cons_succ, List.getElem?_cons_zero]; rfl) (by kernel_rfl) (by kernel_rfl) (by kernel_rfl) (by intro _ _ _ h; exact h) (Or.inl ⟨by rfl, fun w hw => by (obtain ⟨d0, d1, d2⟩ := hw; go_simp; try rfl)⟩) Hb.out ?_
    refine wpAnyH_take (i := 9) (by simp only [List.getElem?_toArray, List.getElem?_cons_succ, List.getElem?_cons_zero]; rfl) (by kernel_rfl) (by kernel_rfl) (by kernel_rfl) (by intro _ _ _ h; exact h) (Or.inl ⟨by rfl, fun w hw => by (obtain ⟨d0, d1, d2⟩ := hw; go_simp; try rfl)⟩) Hb.out ?_
    go_frame
    refine wpAnyH_done (by kernel_rfl) ?_ _
    go_wp2_with fail
    go_ret
    exact ⟨by rw [Hr.out]; rfl, Hb0.out⟩
  · have hq1 : (x.kind == 1) = false := by simp [h7]
    have hq2 : (x.kind == 2) = false := by simp [h7]
    have hq4 : (x.kind == 4) = false := by simp [h7]
    have hq3 : (x.kind == 3) = false := by simp [h7]
    have hq5 : (x.kind == 5) = false := by simp [h7]
    have hq6 : (x.kind == 6) = false := by simp [h7]
    have hq18 : (x.kind == 18) = false := by simp [h7]
    have hq19 : (x.kind == 19) = false := by simp [h7]
    have hq20 : (x.kind == 20) = false := by simp [h7]
    have hll : l.length = 2 := by rw [← Hx.out.1]; exact hl2
    have hk2 : k = 2 := by rw [Hk.out]; exact hll
    subst hk2
    obtain ⟨y0, hy0⟩ : ∃ y, l[0]? = some y := ⟨_, List.getElem?_eq_getElem (by omega)⟩
    obtain ⟨y1, hy1⟩ : ∃ y, l[1]? = some y := ⟨_, List.getElem?_eq_getElem (by omega)⟩
    rw [Hx.out.1] at hsl
    have hs0 := Ex.simps_at hsl hy0
    have hs1 := Ex.simps_at hsl hy1
    obtain ⟨b', off', rfl, hb', hP0⟩ := Hrow.out.at (i := 0) (by omega)
    obtain ⟨b2, off2, he2, _, hP1⟩ := Hrow.out.at (i := 1) (by omega)
    cases he2
    have hi0 := Hih.out.1 0 y0 hy0 y0 rfl hs0 b' (off' + 0 * 4) (hP0 y0 hy0) hb'
    have hi1 := Hih.out.1 1 y1 hy1 y1 rfl hs1 b' (off' + 1 * 4) (hP1 y1 hy1) hb'
    simp only [Nat.zero_mul, Nat.one_mul, Nat.add_zero] at hi0 hi1
    have Hi := Lib.hid (And.intro hi0 hi1)
    have Hr : Hid (evS m.V x = w64 (evS m.V y0 + evS m.V y1)) := by
      show _ = _
      rw [evS_eq, if_neg (by omega), if_neg (by omega), Hx.out.1]
      match l, hll, hy0, hy1 with
      | [a, b], _, h0, h1 => simp at h0 h1; subst h0; subst h1; rfl
    have e4 := H.out.1.run.c4
    rw [H.out.2.2] at e4
    have Hq := Lib.hid h7
    have qr : r < W.heap.size := H.out.1.run.in
    have HI := Lib.hid (And.intro i0 (And.intro i3 (And.intro c0 e4)))
    have qb : b < W.heap.size := Nat.lt_of_lt_of_le hb H.out.2.1.size
    have hk7 := h7
    rw [hk7] at i0
    clear h7 hl2 hsl hll hy0 hy1 hs0 hs1 hb' hP0 hP1 hi0 hi1 i1 i2 hq1 hq2 hq3 hq4 hq5 hq6 hq18 hq19 hq20 hk7 e4 c1
    go_wp2_with fail
    refine (Hi.out.1 W c r mb vw vf most N m H.out.2.1 H.out.1 H.out.2.2).mono ?_
    rintro E w2 ⟨rfl, hb2⟩
    obtain ⟨z0, hz0⟩ : ∃ z, z = evS m.V y0 := ⟨_, rfl⟩
    rw [← hz0]
    rw [← hz0] at Hr
    have H2 := Lib.hid hb2
    have j0 := (hb2.cell (p := ⟨b, o, none⟩) qb).trans i0
    have j3 := (hb2.cell (p := ⟨b, o + 3, none⟩) qb).trans i3
    have d0 := (hb2.cell (p := ⟨c, 0, none⟩) H.out.1.in).trans c0
    have d4 := (hb2.cell (p := ⟨r, 4, none⟩) qr).trans HI.out.2.2.2
    have q2 := hb2.size
    clear hz0 hb2 i0 i3 c0
    go_wp2_with fail
    refine (Hi.out.2 w2 c r mb vw vf most N m (H.out.2.1.trans (H2.out.mono H.out.2.1.size)) (H.out.1.later H2.out) H.out.2.2).mono ?_
    rintro E w3 ⟨rfl, hb3⟩
    obtain ⟨z1, hz1⟩ : ∃ z, z = evS m.V y1 := ⟨_, rfl⟩
    rw [← hz1]
    rw [← hz1] at Hr
    have H3 := Lib.hid (H2.out.trans (hb3.mono q2))
    have k0 := (hb3.cell (p := ⟨b, o, none⟩) (Nat.lt_of_lt_of_le qb q2)).trans j0
    have e0 := (hb3.cell (p := ⟨c, 0, none⟩) (Nat.lt_of_lt_of_le H.out.1.in q2)).trans d0
    have e4 := (hb3.cell (p := ⟨r, 4, none⟩) (Nat.lt_of_lt_of_le qr q2)).trans d4
    clear hz1 hb3 j0 j3 d0 d4
    go_wp2_with fail
    refine (twoAdd_any w3 c z0 z1).mono ?_
    rintro E w4 ⟨rfl, hb4⟩
    have H4 := Lib.hid (H3.out.trans (hb4.mono H3.out.size))
    clear hb4 k0 e0 e4
    go_wp2_with fail
    go_ret
    exact ⟨by rw [Hr.out]; rfl, H4.out⟩
end Go.Proofs.Ytgcplcffejbniaa
