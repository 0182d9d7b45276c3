/- R5's look at ranges: the calls of an expression. -/
import Derived.Test.YtgcplcffejbniaaGreatR5Expr
namespace Go.Proofs.YtgcplcffejbniaaGreat
open Go.RowKit Go.Maps

theorem keepE_nil (e : Int) : keepE e 0 = e := by unfold keepE; split <;> simp_all
theorem keep_and (E : Int) (a b : Bool) : keepE (keepE E (if a = true then 0 else 41)) (if b = true then 0 else 41) = keepE E (if (a && b) = true then 0 else 41) := by
  cases a <;> cases b <;> by_cases h : E = 0 <;> simp [keepE, h]
/-- Is a call's count wrong in an expression? -/
def Ex.cw (F : List Fn) (x : Ex) : Int := if x.evr (cntQ (parN F)) = true then 0 else 41
def E5Ok (w0 : World) (F : List Fn) (vf : Value) (l : List Ex) (v : Value) : Prop := ∀ x : Ex, x.args = l → ∀ (W : World) (c : Nat) (vw kv : Value) (K : Known) (n e : Int), Below w0.heap.size w0 W → w0.heap.size ≤ c → W5At W c vw vf kv K n e →
  Calls Tryz.prog 52 #[ptrV c, exVal x v] W (fun E W' => E = .returned (.tuple #[]) ∧ W5At W' c vw vf kv K n (keepE e (x.cw F)) ∧ WStep W W' c c c kv kv)
set_option maxRecDepth 100000 in
set_option maxHeartbeats 8000000 in
theorem expr5_any (F : List Fn) (vf : Value) (vp vb : Nat → Value) (l : List Ex) (v : Value) (w0 : World) (hF : FnsIn w0 F vf vp vb) (h : ExsIn w0 l v) : E5Ok w0 F vf l v := by
  induction h with
  | mk l v vs h each ih =>
  intro x hx W c vw kv K n e hB hcb hK
  obtain ⟨a, cap, rfl, hncap, hcap⟩ := h.form
  obtain ⟨m, hm⟩ : ∃ m, m = l.length := ⟨_, rfl⟩
  have Hm := Lib.hid hm
  have Hrow : Hid (RowOf w0 (.slice a m cap) l.length 4 (fun b o i => ∀ x, l[i]? = some x → ExAt w0 b o x (vs i))) := by rw [hm]; exact h
  have Hih := Lib.hid (And.intro ih each)
  rw [← hm]
  rw [← hm] at hncap
  have hn62 : m ≤ 9223372036854775807 := by have : maxLen ≤ 9223372036854775807 := by decide
                                            omega
  have Hx := Lib.hid hx
  obtain ⟨W1, hW1⟩ : ∃ W1, W1 = W.alloc (.cells #[.int .i64 x.kind, .int .i64 x.n, .string x.name, .slice a m cap] 35) := ⟨_, rfl⟩
  obtain ⟨D, hD⟩ : ∃ D, D = W.heap.size := ⟨_, rfl⟩
  have hb1 : Below W.heap.size W W1 := by rw [hW1]; exact (Below.refl _ _).alloc (Nat.le_refl _) _
  have he1 : ExAt W1 D 0 x (.slice a m cap) := by rw [hW1, hD]; constructor <;> exact World.cell?_alloc_at _ _ _ _ rfl
  have q1 : D < W1.heap.size := by rw [hW1, hD]; simp
  have qc := hK.in
  have HnotD : Hid (¬ WT c c c kv D) := not_wt (by omega) (by omega) (by omega) (fun j e => by have := (hK.own j e).2; omega)
  have H1 := Lib.hid (And.intro hb1 (And.intro he1 (And.intro (hB.trans (hb1.mono hB.size)) (hK.later hb1))))
  have HW1 := Lib.hid (And.intro hW1 hD)
  have HF := Lib.hid hF
  have Hev : Hid (x.evr (cntQ (parN F)) = (cntQ (parN F) x && Ex.evrs (cntQ (parN F)) l)) := by show _ = _; rw [Ex.evr_eq, Hx.out]
  unfold exVal
  clear h ih each hm hx hb1 he1 hW1 hD hB hK hF
  go_enter Tryz.func52, Tryz.ntmps52
  go_upto_region 1 with (fail)
  rw [← HW1.out.2, ← HW1.out.1]
  obtain ⟨i0, i1, i2, i3⟩ := H1.out.2.1
  simp only [Nat.zero_add] at i0 i1 i2 i3
  obtain ⟨B0, hBe⟩ : ∃ B0, B0 = W1.heap.size := ⟨_, rfl⟩
  refine wp_region_held (S := Below B0 W1.drew) rfl ?_
  change wpAnyH _ _ _ _ (Below B0 W1.drew) _ _ _ W1.drew
  obtain ⟨W2, hW2⟩ : ∃ W0, W0 = W1.drew := ⟨_, rfl⟩
  rw [← hW2]
  have hb2 : Below W1.heap.size W1 W2 := by rw [hW2]; exact (Below.refl _ _).drew
  have Hfc : Hid (∀ W', Below B0 W2 W' → W'.cell? ⟨D, 0, none⟩ = some (.int .i64 x.kind) ∧ W'.cell? ⟨D, 2, none⟩ = some (.string x.name) ∧ W'.cell? ⟨D, 3, none⟩ = some (.slice a m cap)) := fun W' hb => by
    have h2 : Below W1.heap.size W1 W' := hb2.trans (by rw [hBe] at hb; exact hb)
    exact ⟨(h2.cell (p := ⟨D, 0, none⟩) q1).trans i0, (h2.cell (p := ⟨D, 2, none⟩) q1).trans i2, (h2.cell (p := ⟨D, 3, none⟩) q1).trans i3⟩
  have Hb2 : Hid (Below B0 W2 W2) := Below.refl _ _
  have H2 := Lib.hid hb2
  have qB0 : B0 ≤ W2.heap.size := by rw [hBe]; exact hb2.size
  clear hb2 hW2 hBe i0 i1 i2 i3
  by_cases h4 : x.kind = 4
  · have hq : (x.kind == 4) = true := by simp [h4]
    refine wpAnyH_take (i := 0) (by simp only [List.getElem?_toArray, List.getElem?_cons_zero]; rfl) (by kernel_rfl) (by kernel_rfl) (by kernel_rfl) (by intro _ _ _ h; exact h) (Or.inl ⟨by rfl, fun w hw => by (obtain ⟨i0, i2, i3⟩ := Hfc.out w hw; go_simp; try rfl)⟩) Hb2.out ?_
    refine wpAnyH_take (i := 1) (by simp only [List.getElem?_toArray, List.getElem?_cons_succ, List.getElem?_cons_zero]; rfl) (by kernel_rfl) (by kernel_rfl) (by kernel_rfl) (by intro _ _ _ h; exact h) (Or.inl ⟨by rfl, fun w hw => by (obtain ⟨i0, i2, i3⟩ := Hfc.out w hw; go_simp; try rfl)⟩) Hb2.out ?_
    go_frame
    refine wpAnyH_take (i := 2) (by simp only [List.getElem?_toArray, List.getElem?_cons_succ, List.getElem?_cons_zero]; rfl) (by kernel_rfl) (by kernel_rfl) (by kernel_rfl) (by intro _ _ _ h; exact h) (Or.inl ⟨by rfl, fun w hw => by (obtain ⟨i0, i2, i3⟩ := Hfc.out w hw; go_simp; try rfl)⟩) Hb2.out ?_
    refine wpAnyH_take (i := 3) (by simp only [List.getElem?_toArray, List.getElem?_cons_succ, List.getElem?_cons_zero]; rfl) (by kernel_rfl) (by kernel_rfl) (by kernel_rfl) (by intro _ _ _ h; exact h) (Or.inl ⟨by rfl, fun w hw => by (obtain ⟨i0, i2, i3⟩ := Hfc.out w hw; go_simp; try rfl)⟩) Hb2.out ?_
    go_frame
    refine wpAnyH_take (i := 4) (by simp only [List.getElem?_toArray, List.getElem?_cons_succ, List.getElem?_cons_zero]; rfl) (by kernel_rfl) (by kernel_rfl) (by kernel_rfl) (by intro _ _ _ h; exact h) (Or.inl ⟨by rfl, fun w hw => by (obtain ⟨i0, i2, i3⟩ := Hfc.out w hw; go_simp; try rfl)⟩) Hb2.out ?_
    refine wpAnyH_take (i := 5) (by simp only [List.getElem?_toArray, List.getElem?_cons_succ, List.getElem?_cons_zero]; rfl) (by kernel_rfl) (by kernel_rfl) (by kernel_rfl) (by intro _ _ _ h; exact h) (Or.inl ⟨by rfl, fun w hw => by (obtain ⟨i0, i2, i3⟩ := Hfc.out w hw; go_simp; try rfl)⟩) Hb2.out ?_
    go_frame
    refine wpAnyH_take (i := 6) (by simp only [List.getElem?_toArray, List.getElem?_cons_succ, List.getElem?_cons_zero]; rfl) (by kernel_rfl) (by kernel_rfl) (by kernel_rfl) (by intro _ _ _ h; exact h) (Or.inl ⟨by rfl, fun w hw => by (obtain ⟨i0, i2, i3⟩ := Hfc.out w hw; go_simp; try rfl)⟩) Hb2.out ?_
    refine wpAnyH_take (i := 7) (by simp only [List.getElem?_toArray, List.getElem?_cons_succ, List.getElem?_cons_zero]; rfl) (by kernel_rfl) (by kernel_rfl) (by kernel_rfl) (by intro _ _ _ h; exact h) (Or.inl ⟨by rfl, fun w hw => by (obtain ⟨i0, i2, i3⟩ := Hfc.out w hw; go_simp; try rfl)⟩) Hb2.out ?_
    go_frame
    refine wpAnyH_take (i := 8) (by simp only [List.getElem?_toArray, List.getElem?_cons_succ, List.getElem?_cons_zero]; rfl) (by kernel_rfl) (by kernel_rfl) (by kernel_rfl) (by intro _ _ _ h; exact h) (Or.inl ⟨by rfl, fun w hw => by (obtain ⟨i0, i2, i3⟩ := Hfc.out w hw; go_simp; try rfl)⟩) Hb2.out ?_
    refine wpAnyH_take (i := 9) (by simp only [List.getElem?_toArray, List.getElem?_cons_succ, List.getElem?_cons_zero]; rfl) (by kernel_rfl) (by kernel_rfl) (by kernel_rfl) (by intro _ _ _ h; exact h) (Or.inl ⟨by rfl, fun w hw => by (obtain ⟨i0, i2, i3⟩ := Hfc.out w hw; go_simp; try rfl)⟩) Hb2.out ?_
    go_frame
    try go_frame
    refine wpAnyH_ready (rs := [10]) (by kernel_rfl) (by simp) ?_
    refine AllReadyH.cons rfl (fun K' hK' => ?_) AllReadyH.nil
    go_simp
    refine (params5_any F vf vp vb w0 W2 HF.out (H1.out.2.2.1.trans (H2.out.mono H1.out.2.2.1.size)) c vw kv K n e x.name (H1.out.2.2.2.later H2.out)).mono ?_
    rintro E w3 ⟨rfl, hw⟩
    rw [← hw]
    clear hw
    obtain ⟨pn, hpn⟩ : ∃ pn, pn = parN F x.name := ⟨_, rfl⟩
    rw [← hpn]
    refine hK'.out _ _ Hb2.out (fun _ => ?_)
    clear hK' K'
    refine wpAnyH_take (i := 11) (by simp only [List.getElem?_toArray, List.getElem?_cons_succ, List.getElem?_cons_zero]; rfl) (by kernel_rfl) (by kernel_rfl) (by kernel_rfl) (by intro _ _ _ h; exact h) (Or.inl ⟨by rfl, fun w hw => by (skip; go_simp; try rfl)⟩) Hb2.out ?_
    go_frame
    refine wpAnyH_take (i := 12) (by simp only [List.getElem?_toArray, List.getElem?_cons_succ, List.getElem?_cons_zero]; rfl) (by kernel_rfl) (by kernel_rfl) (by kernel_rfl) (by intro _ _ _ h; exact h) (Or.inl ⟨by rfl, fun w hw => by (skip; go_simp; try rfl)⟩) Hb2.out ?_
    go_frame
    try go_frame
    refine wpAnyH_done (by kernel_rfl) ?_ _
    by_cases hp : (m : Int) = pn
    · have hq2 : ((m : Int) != parN F x.name) = false := by rw [← hpn]; simp [hp]
      have Hown : Hid (cntQ (parN F) x = true) := by show _ = _; unfold cntQ; rw [Hx.out, ← Hm.out, ← hpn]; simp [hp]
      have HK3 : Hid (W5At W2 c vw vf kv K n (keepE e (if cntQ (parN F) x = true then 0 else 41)) ∧ WStep W1 W2 c c c kv kv) := ⟨by rw [Hown.out, if_pos rfl, keepE_nil]; exact H1.out.2.2.2.later H2.out, .of_below H2.out⟩
      obtain ⟨V, hV⟩ : ∃ V : World, V = W2 := ⟨_, rfl⟩
      rw [← hV] at HK3 ⊢
      rw [hq2]
      clear hV h4 hp hpn hq2
      obtain ⟨E0, hE0⟩ : ∃ E0, E0 = keepE e (if cntQ (parN F) x = true then 0 else 41) := ⟨_, rfl⟩
      rw [← hE0] at HK3
      have HE0 := Lib.hid hE0
      clear hE0
      have d3 : V.cell? ⟨D, 3, none⟩ = some (.slice a m cap) := (HK3.out.2.oth.cell (p := ⟨D, 3, none⟩) q1 HnotD.out).trans (by have := H1.out.2.1.c3; simpa using this)
      go_wp2_with fail
      clear d3
      go_loopg [4] m (fun g iv wx => ∃ i : Nat, g = m - i ∧ iv = .int .i64 (i : Int) ∧ i ≤ m ∧ W5At wx c vw vf kv K n (keepE E0 (if Ex.evrs (cntQ (parN F)) (l.take i) = true then 0 else 41)) ∧ WStep W1 wx c c c kv kv)
      case atStart => exact ⟨0, rfl, rfl, Nat.zero_le _, by rw [List.take_zero, show Ex.evrs (cntQ (parN F)) [] = true from rfl, if_pos rfl, keepE_nil]; exact HK3.out.1, HK3.out.2⟩
      case round =>
        obtain ⟨i, hg, rfl, hi, hk, hs⟩ := hrel
        have Hg := Lib.hid hg
        have Hn := Lib.hid (And.intro hk hs)
        have d3 : wr.cell? ⟨D, 3, none⟩ = some (.slice a m cap) := (hs.oth.cell (p := ⟨D, 3, none⟩) q1 HnotD.out).trans (by have := H1.out.2.1.c3; simpa using this)
        have HBr : Hid (Below w0.heap.size w0 wr) := hs.below5 H1.out.2.2.2 H1.out.2.2.1 hcb
        clear hg hk hs
        by_cases him : i < m
        · obtain ⟨y, hy⟩ : ∃ y, l[i]? = some y := ⟨_, List.getElem?_eq_getElem (by rw [← Hm.out]; exact him)⟩
          obtain ⟨b, off, rfl, hb, hP⟩ := Hrow.out.at (i := i) (by rw [← Hm.out]; exact him)
          have hey := (hP y hy).later HBr.out hb
          have ihy := Hih.out.1 i y hy y rfl
          obtain ⟨a', cap', hvs, -⟩ := (Hih.out.2 i y hy).form
          obtain ⟨m', hm'⟩ : ∃ m', m' = y.args.length := ⟨_, rfl⟩
          rw [hvs, ← hm'] at hey ihy
          obtain ⟨j0, j1, j2, j3⟩ := hey
          have Hy := Lib.hid hy
          have Hcall := Lib.hid (ihy wr c vw kv K n _ HBr.out hcb Hn.out.1)
          clear hP hy ihy hvs hm'
          go_wp2_with fail
          refine Hcall.out.mono ?_
          rintro E w5 ⟨rfl, hk5, hs5⟩
          unfold Ex.cw at hk5
          rw [keep_and, ← Ex.evrs_next Hy.out] at hk5
          have H5 := Lib.hid (And.intro hk5 (Hn.out.2.trans hs5))
          clear hk5 hs5 j0 j1 j2 j3 d3 Hcall
          go_wp2_with fail
          go_roundg (m - (i + 1))
          case measure => have := Hg.out; omega
          case rel => exact ⟨i + 1, rfl, by go_num, him, H5.out.1, H5.out.2⟩
        · obtain rfl : m = i := by omega
          have Hall : Hid (l.take m = l) := List.take_of_length_le (by rw [← Hm.out]; exact Nat.le_refl _)
          go_wp2_with fail
          refine bodyPost_end (results_none rfl _ _ _) rfl ?_
          refine ⟨rfl, ?_, (WStep.of_below H1.out.1).trans Hn.out.2⟩
          have h := Hn.out.1
          rw [Hall.out, HE0.out, keep_and, ← Hev.out] at h
          exact h
    · have hq2 : ((m : Int) != parN F x.name) = true := by rw [← hpn]; simp [hp]
      have Hown : Hid (cntQ (parN F) x = false) := by show _ = _; unfold cntQ; rw [Hx.out, ← Hm.out, ← hpn]; simp [hp, h4]
      rw [hq2]
      clear h4 hp hpn hq2
      go_wp2_with fail
      refine (wrong5_any W2 c vw vf kv K n e 41 (H1.out.2.2.2.later H2.out)).mono ?_
      rintro E V ⟨rfl, hk3, hs3⟩
      have HK3 : Hid (W5At V c vw vf kv K n (keepE e (if cntQ (parN F) x = true then 0 else 41)) ∧ WStep W1 V c c c kv kv) := ⟨by rw [Hown.out, if_neg (by decide)]; exact hk3, (WStep.of_below H2.out).trans hs3⟩
      clear hk3 hs3
      obtain ⟨E0, hE0⟩ : ∃ E0, E0 = keepE e (if cntQ (parN F) x = true then 0 else 41) := ⟨_, rfl⟩
      rw [← hE0] at HK3
      have HE0 := Lib.hid hE0
      clear hE0
      have d3 : V.cell? ⟨D, 3, none⟩ = some (.slice a m cap) := (HK3.out.2.oth.cell (p := ⟨D, 3, none⟩) q1 HnotD.out).trans (by have := H1.out.2.1.c3; simpa using this)
      go_wp2_with fail
      clear d3
      go_loopg [4] m (fun g iv wx => ∃ i : Nat, g = m - i ∧ iv = .int .i64 (i : Int) ∧ i ≤ m ∧ W5At wx c vw vf kv K n (keepE E0 (if Ex.evrs (cntQ (parN F)) (l.take i) = true then 0 else 41)) ∧ WStep W1 wx c c c kv kv)
      case atStart => exact ⟨0, rfl, rfl, Nat.zero_le _, by rw [List.take_zero, show Ex.evrs (cntQ (parN F)) [] = true from rfl, if_pos rfl, keepE_nil]; exact HK3.out.1, HK3.out.2⟩
      case round =>
        obtain ⟨i, hg, rfl, hi, hk, hs⟩ := hrel
        have Hg := Lib.hid hg
        have Hn := Lib.hid (And.intro hk hs)
        have d3 : wr.cell? ⟨D, 3, none⟩ = some (.slice a m cap) := (hs.oth.cell (p := ⟨D, 3, none⟩) q1 HnotD.out).trans (by have := H1.out.2.1.c3; simpa using this)
        have HBr : Hid (Below w0.heap.size w0 wr) := hs.below5 H1.out.2.2.2 H1.out.2.2.1 hcb
        clear hg hk hs
        by_cases him : i < m
        · obtain ⟨y, hy⟩ : ∃ y, l[i]? = some y := ⟨_, List.getElem?_eq_getElem (by rw [← Hm.out]; exact him)⟩
          obtain ⟨b, off, rfl, hb, hP⟩ := Hrow.out.at (i := i) (by rw [← Hm.out]; exact him)
          have hey := (hP y hy).later HBr.out hb
          have ihy := Hih.out.1 i y hy y rfl
          obtain ⟨a', cap', hvs, -⟩ := (Hih.out.2 i y hy).form
          obtain ⟨m', hm'⟩ : ∃ m', m' = y.args.length := ⟨_, rfl⟩
          rw [hvs, ← hm'] at hey ihy
          obtain ⟨j0, j1, j2, j3⟩ := hey
          have Hy := Lib.hid hy
          have Hcall := Lib.hid (ihy wr c vw kv K n _ HBr.out hcb Hn.out.1)
          clear hP hy ihy hvs hm'
          go_wp2_with fail
          refine Hcall.out.mono ?_
          rintro E w5 ⟨rfl, hk5, hs5⟩
          unfold Ex.cw at hk5
          rw [keep_and, ← Ex.evrs_next Hy.out] at hk5
          have H5 := Lib.hid (And.intro hk5 (Hn.out.2.trans hs5))
          clear hk5 hs5 j0 j1 j2 j3 d3 Hcall
          go_wp2_with fail
          go_roundg (m - (i + 1))
          case measure => have := Hg.out; omega
          case rel => exact ⟨i + 1, rfl, by go_num, him, H5.out.1, H5.out.2⟩
        · obtain rfl : m = i := by omega
          have Hall : Hid (l.take m = l) := List.take_of_length_le (by rw [← Hm.out]; exact Nat.le_refl _)
          go_wp2_with fail
          refine bodyPost_end (results_none rfl _ _ _) rfl ?_
          refine ⟨rfl, ?_, (WStep.of_below H1.out.1).trans Hn.out.2⟩
          have h := Hn.out.1
          rw [Hall.out, HE0.out, keep_and, ← Hev.out] at h
          exact h
  · have hq : (x.kind == 4) = false := by simp [h4]
    have Hown : Hid (cntQ (parN F) x = true) := by show _ = _; unfold cntQ; simp [h4]
    refine wpAnyH_take (i := 0) (by simp only [List.getElem?_toArray, List.getElem?_cons_zero]; rfl) (by kernel_rfl) (by kernel_rfl) (by kernel_rfl) (by intro _ _ _ h; exact h) (Or.inl ⟨by rfl, fun w hw => by (obtain ⟨i0, i2, i3⟩ := Hfc.out w hw; go_simp; try rfl)⟩) Hb2.out ?_
    refine wpAnyH_take (i := 1) (by simp only [List.getElem?_toArray, List.getElem?_cons_succ, List.getElem?_cons_zero]; rfl) (by kernel_rfl) (by kernel_rfl) (by kernel_rfl) (by intro _ _ _ h; exact h) (Or.inl ⟨by rfl, fun w hw => by (obtain ⟨i0, i2, i3⟩ := Hfc.out w hw; go_simp; try rfl)⟩) Hb2.out ?_
    go_frame
    refine wpAnyH_take (i := 2) (by simp only [List.getElem?_toArray, List.getElem?_cons_succ, List.getElem?_cons_zero]; rfl) (by kernel_rfl) (by kernel_rfl) (by kernel_rfl) (by intro _ _ _ h; exact h) (Or.inl ⟨by rfl, fun w hw => by (obtain ⟨i0, i2, i3⟩ := Hfc.out w hw; go_simp; try rfl)⟩) Hb2.out ?_
    refine wpAnyH_take (i := 3) (by simp only [List.getElem?_toArray, List.getElem?_cons_succ, List.getElem?_cons_zero]; rfl) (by kernel_rfl) (by kernel_rfl) (by kernel_rfl) (by intro _ _ _ h; exact h) (Or.inl ⟨by rfl, fun w hw => by (obtain ⟨i0, i2, i3⟩ := Hfc.out w hw; go_simp; try rfl)⟩) Hb2.out ?_
    go_frame
    refine wpAnyH_take (i := 4) (by simp only [List.getElem?_toArray, List.getElem?_cons_succ, List.getElem?_cons_zero]; rfl) (by kernel_rfl) (by kernel_rfl) (by kernel_rfl) (by intro _ _ _ h; exact h) (Or.inr ⟨by go_simp, rfl⟩) Hb2.out ?_
    refine wpAnyH_take (i := 5) (by simp only [List.getElem?_toArray, List.getElem?_cons_succ, List.getElem?_cons_zero]; rfl) (by kernel_rfl) (by kernel_rfl) (by kernel_rfl) (by intro _ _ _ h; exact h) (Or.inr ⟨by go_simp, rfl⟩) Hb2.out ?_
    try go_frame
    refine wpAnyH_take (i := 6) (by simp only [List.getElem?_toArray, List.getElem?_cons_succ, List.getElem?_cons_zero]; rfl) (by kernel_rfl) (by kernel_rfl) (by kernel_rfl) (by intro _ _ _ h; exact h) (Or.inr ⟨by go_simp, rfl⟩) Hb2.out ?_
    refine wpAnyH_take (i := 7) (by simp only [List.getElem?_toArray, List.getElem?_cons_succ, List.getElem?_cons_zero]; rfl) (by kernel_rfl) (by kernel_rfl) (by kernel_rfl) (by intro _ _ _ h; exact h) (Or.inr ⟨by go_simp, rfl⟩) Hb2.out ?_
    try go_frame
    refine wpAnyH_take (i := 8) (by simp only [List.getElem?_toArray, List.getElem?_cons_succ, List.getElem?_cons_zero]; rfl) (by kernel_rfl) (by kernel_rfl) (by kernel_rfl) (by intro _ _ _ h; exact h) (Or.inr ⟨by go_simp, rfl⟩) Hb2.out ?_
    refine wpAnyH_take (i := 9) (by simp only [List.getElem?_toArray, List.getElem?_cons_succ, List.getElem?_cons_zero]; rfl) (by kernel_rfl) (by kernel_rfl) (by kernel_rfl) (by intro _ _ _ h; exact h) (Or.inr ⟨by go_simp, rfl⟩) Hb2.out ?_
    try go_frame
    refine wpAnyH_take (i := 10) (by simp only [List.getElem?_toArray, List.getElem?_cons_succ, List.getElem?_cons_zero]; rfl) (by kernel_rfl) (by kernel_rfl) (by kernel_rfl) (by intro _ _ _ h; exact h) (Or.inr ⟨by go_simp, rfl⟩) Hb2.out ?_
    refine wpAnyH_take (i := 11) (by simp only [List.getElem?_toArray, List.getElem?_cons_succ, List.getElem?_cons_zero]; rfl) (by kernel_rfl) (by kernel_rfl) (by kernel_rfl) (by intro _ _ _ h; exact h) (Or.inr ⟨by go_simp, rfl⟩) Hb2.out ?_
    try go_frame
    refine wpAnyH_take (i := 12) (by simp only [List.getElem?_toArray, List.getElem?_cons_succ, List.getElem?_cons_zero]; rfl) (by kernel_rfl) (by kernel_rfl) (by kernel_rfl) (by intro _ _ _ h; exact h) (Or.inl ⟨by rfl, fun w hw => by (skip; go_simp; try rfl)⟩) Hb2.out ?_
    go_frame
    try go_frame
    refine wpAnyH_done (by kernel_rfl) ?_ _
    have HK3 : Hid (W5At W2 c vw vf kv K n (keepE e (if cntQ (parN F) x = true then 0 else 41)) ∧ WStep W1 W2 c c c kv kv) := ⟨by rw [Hown.out, if_pos rfl, keepE_nil]; exact H1.out.2.2.2.later H2.out, .of_below H2.out⟩
    obtain ⟨V, hV⟩ : ∃ V : World, V = W2 := ⟨_, rfl⟩
    rw [← hV] at HK3 ⊢
    clear hV h4
    obtain ⟨E0, hE0⟩ : ∃ E0, E0 = keepE e (if cntQ (parN F) x = true then 0 else 41) := ⟨_, rfl⟩
    rw [← hE0] at HK3
    have HE0 := Lib.hid hE0
    clear hE0
    have d3 : V.cell? ⟨D, 3, none⟩ = some (.slice a m cap) := (HK3.out.2.oth.cell (p := ⟨D, 3, none⟩) q1 HnotD.out).trans (by have := H1.out.2.1.c3; simpa using this)
    go_wp2_with fail
    clear d3
    go_loopg [4] m (fun g iv wx => ∃ i : Nat, g = m - i ∧ iv = .int .i64 (i : Int) ∧ i ≤ m ∧ W5At wx c vw vf kv K n (keepE E0 (if Ex.evrs (cntQ (parN F)) (l.take i) = true then 0 else 41)) ∧ WStep W1 wx c c c kv kv)
    case atStart => exact ⟨0, rfl, rfl, Nat.zero_le _, by rw [List.take_zero, show Ex.evrs (cntQ (parN F)) [] = true from rfl, if_pos rfl, keepE_nil]; exact HK3.out.1, HK3.out.2⟩
    case round =>
      obtain ⟨i, hg, rfl, hi, hk, hs⟩ := hrel
      have Hg := Lib.hid hg
      have Hn := Lib.hid (And.intro hk hs)
      have d3 : wr.cell? ⟨D, 3, none⟩ = some (.slice a m cap) := (hs.oth.cell (p := ⟨D, 3, none⟩) q1 HnotD.out).trans (by have := H1.out.2.1.c3; simpa using this)
      have HBr : Hid (Below w0.heap.size w0 wr) := hs.below5 H1.out.2.2.2 H1.out.2.2.1 hcb
      clear hg hk hs
      by_cases him : i < m
      · obtain ⟨y, hy⟩ : ∃ y, l[i]? = some y := ⟨_, List.getElem?_eq_getElem (by rw [← Hm.out]; exact him)⟩
        obtain ⟨b, off, rfl, hb, hP⟩ := Hrow.out.at (i := i) (by rw [← Hm.out]; exact him)
        have hey := (hP y hy).later HBr.out hb
        have ihy := Hih.out.1 i y hy y rfl
        obtain ⟨a', cap', hvs, -⟩ := (Hih.out.2 i y hy).form
        obtain ⟨m', hm'⟩ : ∃ m', m' = y.args.length := ⟨_, rfl⟩
        rw [hvs, ← hm'] at hey ihy
        obtain ⟨j0, j1, j2, j3⟩ := hey
        have Hy := Lib.hid hy
        have Hcall := Lib.hid (ihy wr c vw kv K n _ HBr.out hcb Hn.out.1)
        clear hP hy ihy hvs hm'
        go_wp2_with fail
        refine Hcall.out.mono ?_
        rintro E w5 ⟨rfl, hk5, hs5⟩
        unfold Ex.cw at hk5
        rw [keep_and, ← Ex.evrs_next Hy.out] at hk5
        have H5 := Lib.hid (And.intro hk5 (Hn.out.2.trans hs5))
        clear hk5 hs5 j0 j1 j2 j3 d3 Hcall
        go_wp2_with fail
        go_roundg (m - (i + 1))
        case measure => have := Hg.out; omega
        case rel => exact ⟨i + 1, rfl, by go_num, him, H5.out.1, H5.out.2⟩
      · obtain rfl : m = i := by omega
        have Hall : Hid (l.take m = l) := List.take_of_length_le (by rw [← Hm.out]; exact Nat.le_refl _)
        go_wp2_with fail
        refine bodyPost_end (results_none rfl _ _ _) rfl ?_
        refine ⟨rfl, ?_, (WStep.of_below H1.out.1).trans Hn.out.2⟩
        have h := Hn.out.1
        rw [Hall.out, HE0.out, keep_and, ← Hev.out] at h
        exact h
end Go.Proofs.YtgcplcffejbniaaGreat
