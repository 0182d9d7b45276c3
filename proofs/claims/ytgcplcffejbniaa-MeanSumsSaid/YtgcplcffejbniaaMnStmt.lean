/- mean: statements of a few kinds. -/
import Derived.Test.YtgcplcffejbniaaMnExpr
namespace Go.Proofs.Ytgcplcffejbniaa
open Go.RowKit Go.Maps

theorem loopS_keep {f : MS → Int × MS} (hf : ∀ m, m.e = 0 → 0 ≤ m.r → ((f m).1 = 0 → (f m).2.e = 0) ∧ 0 ≤ (f m).2.r) (nm : ByteArray) (most : Int) : ∀ (t : Nat) (i : Int) (m : MS), m.e = 0 → 0 ≤ m.r → ((loopS f nm most i t m).1 = 0 → (loopS f nm most i t m).2.e = 0) ∧ 0 ≤ (loopS f nm most i t m).2.r
  | 0, _, m, he, hr => by unfold loopS; exact ⟨fun _ => he, hr⟩
  | t + 1, i, m, he, hr => by
    unfold loopS
    split
    · exact ⟨fun h => absurd h (show ¬ (2 : Int) = 0 by decide), hr⟩
    · have h1 := hf { m with V := upd m.V nm i, r := m.r + 1 } he (show 0 ≤ m.r + 1 by omega)
      split
      · rename_i h0; exact loopS_keep hf nm most t _ _ (h1.1 h0) h1.2
      · exact ⟨fun h => absurd h (show ¬ (2 : Int) = 0 by decide), h1.2⟩
mutual
theorem runS_keep (most : Int) : ∀ (x : St) (m : MS), m.e = 0 → 0 ≤ m.r → ((runS most x m).1 = 0 → (runS most x m).2.e = 0) ∧ 0 ≤ (runS most x m).2.r
  | .mk k nm n a b body els cases, m, he, hr => by
    rw [runS_eq]
    split
    · exact loopS_keep (fun m he hr => runsS_keep most body m he hr) _ _ _ _ m he hr
    split
    · exact ⟨fun _ => he, hr⟩
    · exact ⟨fun _ => he, hr⟩
theorem runsS_keep (most : Int) : ∀ (l : List St) (m : MS), m.e = 0 → 0 ≤ m.r → ((runsS most l m).1 = 0 → (runsS most l m).2.e = 0) ∧ 0 ≤ (runsS most l m).2.r
  | [], m, he, hr => by simp only [runsS]; exact ⟨fun _ => he, hr⟩
  | x :: l, m, he, hr => by
    simp only [runsS]
    have h1 := runS_keep most x m he hr
    split
    · rename_i h0; exact runsS_keep most l _ (h1.1 h0) h1.2
    · exact h1
end
theorem MT_below {r mb c : Nat} {w0 w w' : World} (h : Oth (MT r mb c) w w') (hB : Below w0.heap.size w0 w) (hr : w0.heap.size ≤ r) (hl : r < mb ∧ mb < c) : Below w0.heap.size w0 w' :=
  hB.trans (h.below hB.size fun k hk => by rcases hk with e | e | e <;> omega)
def MlOk (w0 : World) (N : List ByteArray) (l : List St) (v : Value) : Prop := St.simps N l → ∀ (W : World) (c r mb : Nat) (vw vf : Value) (most : Int) (m : MS), Below w0.heap.size w0 W → w0.heap.size ≤ r → FrAt W c r mb vw vf most N m → m.e = 0 → 0 ≤ m.r → most ≤ 9223372036854775807 →
  Calls Try.prog 78 #[ptrV c, v] W (fun E W' => E = .returned (.int .i64 (runsS most l m).1) ∧ FrAt W' c r mb vw vf most N (runsS most l m).2 ∧ Oth (MT r mb c) W W')
set_option maxRecDepth 100000 in
set_option maxHeartbeats 4000000 in
theorem mloop_any (x : St) (b o : Nat) (va vb ve vc : Value) (ad : Option Addr) (nd cd : Nat) (w0 : World) (hst : StAt w0 b o x va vb (.slice ad nd cd) ve vc) (hb : b < w0.heap.size) (N : List ByteArray) (hnm : x.name ∈ N ∧ x.name.size ≤ 16) (hbs : x.b.simp) (hds : St.simps N x.body) (hxb : MxOk w0 x.b.args vb) (hld : MlOk w0 N x.body (.slice ad nd cd))
    (av : Int) (hav : in64 av) (W : World) (c r mb : Nat) (vw vf : Value) (most : Int) (m : MS) (hB : Below w0.heap.size w0 W) (hr0 : w0.heap.size ≤ r) (hF : FrAt W c r mb vw vf most N m) (he : m.e = 0) (hrn : 0 ≤ m.r) (hmost : most ≤ 9223372036854775807) :
    Calls Try.prog 111 #[ptrV c, .pointer (some ⟨b, o, none⟩), .int .i64 av] W (fun E W' => E = .returned (.int .i64 (loopS (runsS most x.body) x.name most av ((evS m.V x.b - av).toNat) m).1) ∧ FrAt W' c r mb vw vf most N (loopS (runsS most x.body) x.name most av ((evS m.V x.b - av).toNat) m).2 ∧ Oth (MT r mb c) W W') := by
  have Hst := Lib.hid (And.intro hst hb)
  have Hnm := Lib.hid hnm
  have Hld := Lib.hid (hld hds)
  have H := Lib.hid (And.intro hF (And.intro hB he))
  have hbat : ExAt w0 b (o + 7) x.b vb := ⟨hst.c7, hst.c8, hst.c9, hst.c10⟩
  have Hcb := Lib.hid (hxb x.b rfl hbs b (o + 7) hbat hb W c r mb vw vf most N m hB hF he)
  obtain ⟨bv, hbv⟩ : ∃ z, z = evS m.V x.b := ⟨_, rfl⟩
  have hbv64 : in64 bv := by rw [hbv]; exact evS_in hF.vin hbs
  rw [← hbv] at Hcb
  obtain ⟨q, hq⟩ : ∃ q, q = loopS (runsS most x.body) x.name most av ((bv - av).toNat) m := ⟨_, rfl⟩
  have Hq := Lib.hid hq
  rw [← hbv, ← hq]
  have hl := hF.lt
  have hcin := hF.in
  have hrin := hF.run.in
  have hbW : b < W.heap.size := Nat.lt_of_lt_of_le hb hB.size
  have h64 : -9223372036854775808 ≤ av ∧ av ≤ 9223372036854775807 := hav
  have h64b : -9223372036854775808 ≤ bv ∧ bv ≤ 9223372036854775807 := hbv64
  have c0 := hF.c0
  have i3 := hF.run.c4
  rw [he] at i3
  have Hi := Lib.hid (And.intro c0 i3)
  have Hrn := Lib.hid hrn
  clear hst hb hnm hld hds hbs hF hB he hbat hxb hbv hq hrn hav hbv64
  go_enter Try.func111, Try.ntmps111
  go_wp2_with fail
  go_step3
  go_wp2_with fail
  refine Hcb.out.mono ?_
  rintro E w2 ⟨rfl, hb2⟩
  have H2 := Lib.hid hb2
  have d0 := (hb2.cell (p := ⟨c, 0, none⟩) hcin).trans Hi.out.1
  have d4 := (hb2.cell (p := ⟨r, 4, none⟩) hrin).trans Hi.out.2
  clear hb2 c0 i3 Hcb
  go_wp2_with fail
  go_step3
  go_wp2_with fail
  clear d0 d4
  go_loopg [8] ((bv - av).toNat) (fun g iv wx => ∃ (i : Int) (m' : MS), g = (bv - i).toNat ∧ iv = .int .i64 i ∧ av ≤ i ∧ i ≤ 9223372036854775807 ∧ FrAt wx c r mb vw vf most N m' ∧ m'.e = 0 ∧ 0 ≤ m'.r ∧ Oth (MT r mb c) W wx ∧ loopS (runsS most x.body) x.name most i ((bv - i).toNat) m' = q)
  case atStart => exact ⟨av, m, rfl, rfl, Int.le_refl _, h64.2, H.out.1.later H2.out, H.out.2.2, Hrn.out, .of_below H2.out, Hq.out.symm⟩
  case round =>
    obtain ⟨i, m1, hg, rfl, hai, hi9, hF1, he1, hr1, hO1, hqe⟩ := hrel
    have Hg := Lib.hid hg
    have HFw := Lib.hid hF1
    have Hqe := Lib.hid hqe
    have HO1 := Lib.hid hO1
    have He1 := Lib.hid (And.intro he1 hr1)
    have HBw : Hid (Below w0.heap.size w0 wr) := MT_below hO1 H.out.2.1 hr0 hl
    have c0 := hF1.c0
    clear hg hF1 hqe hO1 he1
    by_cases hib : i < bv
    · have Ht : Hid ((bv - i).toNat = (bv - (i + 1)).toNat + 1) := by show _ = _; omega
      have hiw : wrap64 (i + 1) = i + 1 := by unfold wrap64; omega
      have hi1 : i + 1 ≤ 9223372036854775807 := by omega
      have Hround := Lib.hid (round_any wr r vw vf most m1.r m1.e HFw.out.run hr1 hmost)
      go_wp2_with fail
      refine Hround.out.mono ?_
      rintro E w3 ⟨rfl, hR3, hO3⟩
      by_cases hlt : m1.r < most
      · rw [decide_eq_true hlt]
        rw [if_pos hlt, if_pos hlt] at hR3
        have hF3 := HFw.out.putRun hO3 hR3
        have HO3 := Lib.hid (HO1.out.trans (hO3.weak fun k (e : k = r) => .inl e))
        have Hnot : Hid (¬ most ≤ m1.r) := by show ¬ _; omega
        clear HFw HBw
        have HFw := Lib.hid hF3
        have HBw : Hid (Below w0.heap.size w0 w3) := MT_below HO3.out H.out.2.1 hr0 hl
        have hq3 := hF3.in
        clear hR3 hO3 hlt hF3 c0 Hround
        go_upto_region 9 with (fail)
        refine wp_region_heldZ (S := fun w => w.cell? ⟨c, 1, none⟩ = some (.map (some mb)) ∧ w.cell? ⟨b, o + 1, none⟩ = some (.string x.name)) (z := 9) rfl ?_
        change wpAnyZ _ _ _ _ _ _ _ _ _ w3.drew
        obtain ⟨W0, hW0⟩ : ∃ W0, W0 = w3.drew := ⟨_, rfl⟩
        rw [← hW0]
        have hb0 : Below w3.heap.size w3 W0 := by rw [hW0]; exact (Below.refl _ _).drew
        have HF0 := Lib.hid (And.intro (HFw.out.later hb0) hb0)
        have Hb : Hid (W0.cell? ⟨c, 1, none⟩ = some (.map (some mb)) ∧ W0.cell? ⟨b, o + 1, none⟩ = some (.string x.name)) := ⟨HF0.out.1.c1, (hb0.cell (p := ⟨b, o + 1, none⟩) (Nat.lt_of_lt_of_le Hst.out.2 HBw.out.size)).trans (Hst.out.1.later HBw.out Hst.out.2).c1⟩
        clear hb0 hW0
        refine wpAnyZ_take (i := 0) (by simp only [List.getElem?_toArray, List.getElem?_cons_zero]; rfl) (by kernel_rfl) (by kernel_rfl) (by kernel_rfl) (by kernel_rfl) (by intro _ _ _ h; exact h) (Or.inl ⟨by rfl, fun w hw => by (obtain ⟨z1, z2⟩ := hw; go_simp; try rfl)⟩) Hb.out ?_
        refine wpAnyZ_take (i := 1) (by simp only [List.getElem?_toArray, List.getElem?_cons_succ, List.getElem?_cons_zero]; rfl) (by kernel_rfl) (by kernel_rfl) (by kernel_rfl) (by kernel_rfl) (by intro _ _ _ h; exact h) (Or.inl ⟨by rfl, fun w hw => by (obtain ⟨z1, z2⟩ := hw; go_simp; try rfl)⟩) Hb.out ?_
        go_frame
        refine wpAnyZ_take (i := 2) (by simp only [List.getElem?_toArray, List.getElem?_cons_succ, List.getElem?_cons_zero]; rfl) (by kernel_rfl) (by kernel_rfl) (by kernel_rfl) (by kernel_rfl) (by intro _ _ _ h; exact h) (Or.inl ⟨by rfl, fun w hw => by (obtain ⟨z1, z2⟩ := hw; go_simp; try rfl)⟩) Hb.out ?_
        refine wpAnyZ_take (i := 3) (by simp only [List.getElem?_toArray, List.getElem?_cons_succ, List.getElem?_cons_zero]; rfl) (by kernel_rfl) (by kernel_rfl) (by kernel_rfl) (by kernel_rfl) (by intro _ _ _ h; exact h) (Or.inl ⟨by rfl, fun w hw => by (obtain ⟨z1, z2⟩ := hw; go_simp; try rfl)⟩) Hb.out ?_
        go_frame
        refine wpAnyZ_take (i := 4) (by simp only [List.getElem?_toArray, List.getElem?_cons_succ, List.getElem?_cons_zero]; rfl) (by kernel_rfl) (by kernel_rfl) (by kernel_rfl) (by kernel_rfl) (by intro _ _ _ h; exact h) (Or.inl ⟨by rfl, fun w hw => by (obtain ⟨z1, z2⟩ := hw; go_simp; try rfl)⟩) Hb.out ?_
        refine wpAnyZ_take (i := 5) (by simp only [List.getElem?_toArray, List.getElem?_cons_succ, List.getElem?_cons_zero]; rfl) (by kernel_rfl) (by kernel_rfl) (by kernel_rfl) (by kernel_rfl) (by intro _ _ _ h; exact h) (Or.inl ⟨by rfl, fun w hw => by (obtain ⟨z1, z2⟩ := hw; go_simp; try rfl)⟩) Hb.out ?_
        go_frame
        refine wpAnyZ_take (i := 6) (by simp only [List.getElem?_toArray, List.getElem?_cons_succ, List.getElem?_cons_zero]; rfl) (by kernel_rfl) (by kernel_rfl) (by kernel_rfl) (by kernel_rfl) (by intro _ _ _ h; exact h) (Or.inl ⟨by rfl, fun w hw => by (obtain ⟨z1, z2⟩ := hw; go_simp; try rfl)⟩) Hb.out ?_
        refine wpAnyZ_take (i := 7) (by simp only [List.getElem?_toArray, List.getElem?_cons_succ, List.getElem?_cons_zero]; rfl) (by kernel_rfl) (by kernel_rfl) (by kernel_rfl) (by kernel_rfl) (by intro _ _ _ h; exact h) (Or.inl ⟨by rfl, fun w hw => by (obtain ⟨z1, z2⟩ := hw; go_simp; try rfl)⟩) Hb.out ?_
        go_frame
        refine wpAnyZ_take (i := 8) (by simp only [List.getElem?_toArray, List.getElem?_cons_succ, List.getElem?_cons_zero]; rfl) (by kernel_rfl) (by kernel_rfl) (by kernel_rfl) (by kernel_rfl) (by intro _ _ _ h; exact h) (Or.inl ⟨by rfl, fun w hw => by (obtain ⟨z1, z2⟩ := hw; go_simp; try rfl)⟩) Hb.out ?_
        go_frame
        refine wpAnyZ_next (i := 9) (by kernel_rfl) (by simp only [List.getElem?_toArray, List.getElem?_cons_succ, List.getElem?_cons_zero]; rfl) (fun Kc hKc => ?_)
        obtain ⟨w4, hrun, hv4, hO4⟩ := HF0.out.1.map.put HF0.out.1.few x.name Hnm.out.1 Hnm.out.2 (i)
        have H4 := Lib.hid (And.intro (HF0.out.1.putV hO4 hv4 ⟨by omega, by omega⟩) ((Oth.of_below (S := MT r mb c) HF0.out.2).trans (hO4.weak fun k (e : k = mb) => .inr (.inl e))))
        clear hv4 hO4
        go_simp
        refine hKc.out _ _ (fun h => absurd rfl h) ?_
        clear hKc Kc hrun
        refine wpAnyZ_done (by kernel_rfl) ?_ _
        have d11 := (Hst.out.1.later (MT_below H4.out.2 HBw.out hr0 hl) Hst.out.2).c11
        have hcl := Hld.out w4 c r mb vw vf most _ (MT_below H4.out.2 HBw.out hr0 hl) hr0 H4.out.1 He1.out.1 (show 0 ≤ m1.r + 1 by have := He1.out.2; omega) hmost
        obtain ⟨q5, hq5⟩ : ∃ q5, q5 = runsS most x.body { m1 with V := upd m1.V x.name i, r := m1.r + 1 } := ⟨_, rfl⟩
        have h2 := runsS_two most x.body { m1 with V := upd m1.V x.name i, r := m1.r + 1 }
        have hk := runsS_keep most x.body { m1 with V := upd m1.V x.name i, r := m1.r + 1 } He1.out.1 (show 0 ≤ m1.r + 1 by have := He1.out.2; omega)
        have hcl : Calls Try.prog 78 #[ptrV c, .slice ad nd cd] w4 (fun E W' => E = .returned (.int .i64 q5.1) ∧ FrAt W' c r mb vw vf most N q5.2 ∧ Oth (MT r mb c) w4 W') := by rw [hq5]; exact hcl
        rw [← hq5] at h2 hk
        have hun : q = if q5.1 = 0 then loopS (runsS most x.body) x.name most (i + 1) ((bv - (i + 1)).toNat) q5.2 else (2, q5.2) := by
          rw [← Hqe.out, Ht.out]
          simp only [loopS]
          rw [if_neg (by have := Hnot.out; omega), ← hq5]
        have Hcl := Lib.hid hcl
        have Hun := Lib.hid hun
        have Hk := Lib.hid hk
        obtain ⟨h5, m5⟩ := q5
        simp only at h2 Hcl Hun Hk
        clear hq5 hcl hun hk
        go_wp2_with fail
        refine Hcl.out.mono ?_
        rintro E w5 ⟨rfl, hF5, hO5⟩
        have H5 := Lib.hid (And.intro hF5 (HO3.out.trans (H4.out.2.trans hO5)))
        clear hF5 hO5 d11
        rcases h2 with rfl | rfl
        · have Hqn : Hid (loopS (runsS most x.body) x.name most (i + 1) ((bv - (i + 1)).toNat) m5 = q) := by show _ = _; rw [Hun.out]; rfl
          go_wp2_with fail
          go_roundg ((bv - (i + 1)).toNat)
          case measure => have := Hg.out; have := Ht.out; omega
          case rel => exact ⟨i + 1, m5, rfl, by go_num, by omega, hi1, H5.out.1, Hk.out.1 (by first | trivial | rfl), Hk.out.2, H5.out.2, Hqn.out⟩
        · have Hqn : Hid (q = (2, m5)) := by show _ = _; rw [Hun.out]; rfl
          go_wp2_with fail
          try rw [Exit.noGoto_ret]
          go_ret
          exact ⟨by rw [Hqn.out]; rfl, by rw [Hqn.out]; exact H5.out.1, H5.out.2⟩
      · rw [decide_eq_false hlt]
        rw [if_neg hlt, if_neg hlt] at hR3
        have hF3 := HFw.out.putRun hO3 hR3
        have Hqn : Hid (q = (2, { m1 with e := 53 })) := by
          show _ = _
          rw [← Hqe.out, Ht.out]
          simp only [loopS]
          rw [if_pos (by omega)]
        have H3 := Lib.hid (And.intro hF3 (HO1.out.trans (hO3.weak fun k (e : k = r) => .inl e)))
        clear hR3 hO3 hlt hF3 c0 Hround
        go_wp2_with fail
        try rw [Exit.noGoto_ret]
        go_ret
        exact ⟨by rw [Hqn.out]; rfl, by rw [Hqn.out]; exact H3.out.1, H3.out.2⟩
    · have Hqn : Hid (q = (0, m1)) := by
        show _ = _
        rw [← Hqe.out, show (bv - i).toNat = 0 by omega]
        simp only [loopS]
      clear c0
      go_wp2_with fail
      try rw [Exit.noGoto_ret]
      go_ret
      exact ⟨by rw [Hqn.out]; rfl, by rw [Hqn.out]; exact HFw.out, HO1.out⟩
set_option maxRecDepth 100000 in
set_option maxHeartbeats 4000000 in
theorem mstmt_any (x : St) (b o : Nat) (va vb ve vc : Value) (ad : Option Addr) (nd cd : Nat) (w0 : World) (hst : StAt w0 b o x va vb (.slice ad nd cd) ve vc) (hb : b < w0.heap.size) (N : List ByteArray) (hs : x.simp N) (hxa : MxOk w0 x.a.args va) (hxb : MxOk w0 x.b.args vb) (hld : MlOk w0 N x.body (.slice ad nd cd))
    (W : World) (c r mb : Nat) (vw vf : Value) (most : Int) (m : MS) (hB : Below w0.heap.size w0 W) (hr0 : w0.heap.size ≤ r) (hF : FrAt W c r mb vw vf most N m) (he : m.e = 0) (hrn : 0 ≤ m.r) (hmost : most ≤ 9223372036854775807) :
    Calls Try.prog 91 #[ptrV c, .pointer (some ⟨b, o, none⟩)] W (fun E W' => E = .returned (.int .i64 (runS most x m).1) ∧ FrAt W' c r mb vw vf most N (runS most x m).2 ∧ Oth (MT r mb c) W W') := by
  have Hst := Lib.hid (And.intro hst hb)
  obtain ⟨has, hkind⟩ := (St.simp_eq N x).1 hs
  have haat : ExAt w0 b (o + 3) x.a va := ⟨hst.c3, hst.c4, hst.c5, hst.c6⟩
  have Hca := Lib.hid (hxa x.a rfl has b (o + 3) haat hb W c r mb vw vf most N m hB hF he)
  obtain ⟨av, hav⟩ : ∃ z, z = evS m.V x.a := ⟨_, rfl⟩
  have hav64 : in64 av := by rw [hav]; exact evS_in hF.vin has
  rw [← hav] at Hca
  have H := Lib.hid (And.intro hF (And.intro hB (And.intro he hrn)))
  have Hsub := Lib.hid (And.intro hxb hld)
  have hl := hF.lt
  have hcin := hF.in
  have hrin := hF.run.in
  have hbW : b < W.heap.size := Nat.lt_of_lt_of_le hb hB.size
  have c0 := hF.c0
  have i3 := hF.run.c4
  rw [he] at i3
  have Hi := Lib.hid (And.intro c0 i3)
  obtain ⟨q, hq⟩ : ∃ q, q = runS most x m := ⟨_, rfl⟩
  rw [← hq]
  have Hq := Lib.hid hq
  have j0 := (hst.later hB hb).c0
  have Hj0 := Lib.hid j0
  have Hav := Lib.hid hav
  have hk2 : (x.kind == 2) = false := by simp; omega
  have hk8 : (x.kind == 8) = false := by simp; omega
  clear hst hb hs has haat hxa hxb hld hF hB he hrn hq hav
  go_enter Try.func91, Try.ntmps91
  go_wp2_with fail
  refine Hca.out.mono ?_
  rintro E w2 ⟨rfl, hb2⟩
  have H2 := Lib.hid hb2
  have d0 := (hb2.cell (p := ⟨c, 0, none⟩) hcin).trans Hi.out.1
  have d4 := (hb2.cell (p := ⟨r, 4, none⟩) hrin).trans Hi.out.2
  have k0 := (hb2.cell (p := ⟨b, o, none⟩) hbW).trans Hj0.out
  have HFw := Lib.hid (H.out.1.later hb2)
  have HBw : Hid (Below w0.heap.size w0 w2) := H.out.2.1.trans (hb2.mono H.out.2.1.size)
  clear hb2 c0 i3 j0 Hca
  rcases hkind with h9 | ⟨hnm, h1 | h3 | ⟨h7, hbs, hds⟩⟩
  · have hq1 : (x.kind == 1) = false := by simp [h9]
    have hq3 : (x.kind == 3) = false := by simp [h9]
    have hq4 : (x.kind == 4) = false := by simp [h9]
    have hq5 : (x.kind == 5) = false := by simp [h9]
    have hq6 : (x.kind == 6) = false := by simp [h9]
    have hq7 : (x.kind == 7) = false := by simp [h9]
    have hq9 : (x.kind == 9) = true := by simp [h9]
    have Hqn : Hid (q = (2, { m with v := av })) := by show _ = _; rw [Hq.out, runS_eq, if_neg (by omega), if_pos h9, ← Hav.out]
    have e4 := HFw.out.c4
    have f4 := HFw.out.f4
    clear h9
    go_wp2_with fail
    go_ret
    exact ⟨by rw [Hqn.out]; rfl, by rw [Hqn.out]; exact HFw.out.putv av, (Oth.of_below H2.out).trans ((Oth.refl (MT r mb c) _).set (p := ⟨c, 4, none⟩) (.inr (.inr rfl)) _)⟩
  · have Hnm := Lib.hid hnm
    have hq1 : (x.kind == 1) = true := by simp [h1]
    have Hqn : Hid (q = (0, { m with V := upd m.V x.name av })) := by show _ = _; rw [Hq.out, runS_eq, if_neg (by omega), if_neg (by omega), ← Hav.out]
    clear h1 hnm
    go_upto_region 14 with (fail)
    refine wp_region_heldZ (S := fun w => w.cell? ⟨c, 1, none⟩ = some (.map (some mb)) ∧ w.cell? ⟨b, o + 1, none⟩ = some (.string x.name)) (z := 9) rfl ?_
    change wpAnyZ _ _ _ _ _ _ _ _ _ w2.drew
    obtain ⟨W0, hW0⟩ : ∃ W0, W0 = w2.drew := ⟨_, rfl⟩
    rw [← hW0]
    have hb0 : Below w2.heap.size w2 W0 := by rw [hW0]; exact (Below.refl _ _).drew
    have HF0 := Lib.hid (And.intro (HFw.out.later hb0) hb0)
    have Hb : Hid (W0.cell? ⟨c, 1, none⟩ = some (.map (some mb)) ∧ W0.cell? ⟨b, o + 1, none⟩ = some (.string x.name)) := ⟨HF0.out.1.c1, (hb0.cell (p := ⟨b, o + 1, none⟩) (Nat.lt_of_lt_of_le Hst.out.2 HBw.out.size)).trans (Hst.out.1.later HBw.out Hst.out.2).c1⟩
    clear hb0 hW0
    refine wpAnyZ_take (i := 0) (by simp only [List.getElem?_toArray, List.getElem?_cons_zero]; rfl) (by kernel_rfl) (by kernel_rfl) (by kernel_rfl) (by kernel_rfl) (by intro _ _ _ h; exact h) (Or.inl ⟨by rfl, fun w hw => by (obtain ⟨z1, z2⟩ := hw; go_simp; try rfl)⟩) Hb.out ?_
    refine wpAnyZ_take (i := 1) (by simp only [List.getElem?_toArray, List.getElem?_cons_succ, List.getElem?_cons_zero]; rfl) (by kernel_rfl) (by kernel_rfl) (by kernel_rfl) (by kernel_rfl) (by intro _ _ _ h; exact h) (Or.inl ⟨by rfl, fun w hw => by (obtain ⟨z1, z2⟩ := hw; go_simp; try rfl)⟩) Hb.out ?_
    go_frame
    refine wpAnyZ_take (i := 2) (by simp only [List.getElem?_toArray, List.getElem?_cons_succ, List.getElem?_cons_zero]; rfl) (by kernel_rfl) (by kernel_rfl) (by kernel_rfl) (by kernel_rfl) (by intro _ _ _ h; exact h) (Or.inl ⟨by rfl, fun w hw => by (obtain ⟨z1, z2⟩ := hw; go_simp; try rfl)⟩) Hb.out ?_
    refine wpAnyZ_take (i := 3) (by simp only [List.getElem?_toArray, List.getElem?_cons_succ, List.getElem?_cons_zero]; rfl) (by kernel_rfl) (by kernel_rfl) (by kernel_rfl) (by kernel_rfl) (by intro _ _ _ h; exact h) (Or.inl ⟨by rfl, fun w hw => by (obtain ⟨z1, z2⟩ := hw; go_simp; try rfl)⟩) Hb.out ?_
    go_frame
    refine wpAnyZ_take (i := 4) (by simp only [List.getElem?_toArray, List.getElem?_cons_succ, List.getElem?_cons_zero]; rfl) (by kernel_rfl) (by kernel_rfl) (by kernel_rfl) (by kernel_rfl) (by intro _ _ _ h; exact h) (Or.inl ⟨by rfl, fun w hw => by (obtain ⟨z1, z2⟩ := hw; go_simp; try rfl)⟩) Hb.out ?_
    refine wpAnyZ_take (i := 5) (by simp only [List.getElem?_toArray, List.getElem?_cons_succ, List.getElem?_cons_zero]; rfl) (by kernel_rfl) (by kernel_rfl) (by kernel_rfl) (by kernel_rfl) (by intro _ _ _ h; exact h) (Or.inl ⟨by rfl, fun w hw => by (obtain ⟨z1, z2⟩ := hw; go_simp; try rfl)⟩) Hb.out ?_
    go_frame
    refine wpAnyZ_take (i := 6) (by simp only [List.getElem?_toArray, List.getElem?_cons_succ, List.getElem?_cons_zero]; rfl) (by kernel_rfl) (by kernel_rfl) (by kernel_rfl) (by kernel_rfl) (by intro _ _ _ h; exact h) (Or.inl ⟨by rfl, fun w hw => by (obtain ⟨z1, z2⟩ := hw; go_simp; try rfl)⟩) Hb.out ?_
    refine wpAnyZ_take (i := 7) (by simp only [List.getElem?_toArray, List.getElem?_cons_succ, List.getElem?_cons_zero]; rfl) (by kernel_rfl) (by kernel_rfl) (by kernel_rfl) (by kernel_rfl) (by intro _ _ _ h; exact h) (Or.inl ⟨by rfl, fun w hw => by (obtain ⟨z1, z2⟩ := hw; go_simp; try rfl)⟩) Hb.out ?_
    go_frame
    refine wpAnyZ_take (i := 8) (by simp only [List.getElem?_toArray, List.getElem?_cons_succ, List.getElem?_cons_zero]; rfl) (by kernel_rfl) (by kernel_rfl) (by kernel_rfl) (by kernel_rfl) (by intro _ _ _ h; exact h) (Or.inl ⟨by rfl, fun w hw => by (obtain ⟨z1, z2⟩ := hw; go_simp; try rfl)⟩) Hb.out ?_
    go_frame
    refine wpAnyZ_next (i := 9) (by kernel_rfl) (by simp only [List.getElem?_toArray, List.getElem?_cons_succ, List.getElem?_cons_zero]; rfl) (fun Kc hKc => ?_)
    obtain ⟨w4, hrun, hv4, hO4⟩ := HF0.out.1.map.put HF0.out.1.few x.name Hnm.out.1 Hnm.out.2 (av)
    have H4 := Lib.hid (And.intro (HF0.out.1.putV hO4 hv4 hav64) ((Oth.of_below (S := MT r mb c) HF0.out.2).trans (hO4.weak fun k (e : k = mb) => .inr (.inl e))))
    clear hv4 hO4
    go_simp
    refine hKc.out _ _ (fun h => absurd rfl h) ?_
    clear hKc Kc hrun
    refine wpAnyZ_done (by kernel_rfl) ?_ _
    go_wp2_with fail
    go_ret
    exact ⟨by rw [Hqn.out]; rfl, by rw [Hqn.out]; exact H4.out.1, (Oth.of_below H2.out).trans H4.out.2⟩
  · have Hnm := Lib.hid hnm
    have hq1 : (x.kind == 1) = false := by simp [h3]
    have hq3 : (x.kind == 3) = true := by simp [h3]
    have Hqn : Hid (q = (0, { m with V := upd m.V x.name av })) := by show _ = _; rw [Hq.out, runS_eq, if_neg (by omega), if_neg (by omega), ← Hav.out]
    clear h3 hnm
    go_upto_region 14 with (fail)
    refine wp_region_heldZ (S := fun w => w.cell? ⟨c, 1, none⟩ = some (.map (some mb)) ∧ w.cell? ⟨b, o + 1, none⟩ = some (.string x.name)) (z := 9) rfl ?_
    change wpAnyZ _ _ _ _ _ _ _ _ _ w2.drew
    obtain ⟨W0, hW0⟩ : ∃ W0, W0 = w2.drew := ⟨_, rfl⟩
    rw [← hW0]
    have hb0 : Below w2.heap.size w2 W0 := by rw [hW0]; exact (Below.refl _ _).drew
    have HF0 := Lib.hid (And.intro (HFw.out.later hb0) hb0)
    have Hb : Hid (W0.cell? ⟨c, 1, none⟩ = some (.map (some mb)) ∧ W0.cell? ⟨b, o + 1, none⟩ = some (.string x.name)) := ⟨HF0.out.1.c1, (hb0.cell (p := ⟨b, o + 1, none⟩) (Nat.lt_of_lt_of_le Hst.out.2 HBw.out.size)).trans (Hst.out.1.later HBw.out Hst.out.2).c1⟩
    clear hb0 hW0
    refine wpAnyZ_take (i := 0) (by simp only [List.getElem?_toArray, List.getElem?_cons_zero]; rfl) (by kernel_rfl) (by kernel_rfl) (by kernel_rfl) (by kernel_rfl) (by intro _ _ _ h; exact h) (Or.inl ⟨by rfl, fun w hw => by (obtain ⟨z1, z2⟩ := hw; go_simp; try rfl)⟩) Hb.out ?_
    refine wpAnyZ_take (i := 1) (by simp only [List.getElem?_toArray, List.getElem?_cons_succ, List.getElem?_cons_zero]; rfl) (by kernel_rfl) (by kernel_rfl) (by kernel_rfl) (by kernel_rfl) (by intro _ _ _ h; exact h) (Or.inl ⟨by rfl, fun w hw => by (obtain ⟨z1, z2⟩ := hw; go_simp; try rfl)⟩) Hb.out ?_
    go_frame
    refine wpAnyZ_take (i := 2) (by simp only [List.getElem?_toArray, List.getElem?_cons_succ, List.getElem?_cons_zero]; rfl) (by kernel_rfl) (by kernel_rfl) (by kernel_rfl) (by kernel_rfl) (by intro _ _ _ h; exact h) (Or.inl ⟨by rfl, fun w hw => by (obtain ⟨z1, z2⟩ := hw; go_simp; try rfl)⟩) Hb.out ?_
    refine wpAnyZ_take (i := 3) (by simp only [List.getElem?_toArray, List.getElem?_cons_succ, List.getElem?_cons_zero]; rfl) (by kernel_rfl) (by kernel_rfl) (by kernel_rfl) (by kernel_rfl) (by intro _ _ _ h; exact h) (Or.inl ⟨by rfl, fun w hw => by (obtain ⟨z1, z2⟩ := hw; go_simp; try rfl)⟩) Hb.out ?_
    go_frame
    refine wpAnyZ_take (i := 4) (by simp only [List.getElem?_toArray, List.getElem?_cons_succ, List.getElem?_cons_zero]; rfl) (by kernel_rfl) (by kernel_rfl) (by kernel_rfl) (by kernel_rfl) (by intro _ _ _ h; exact h) (Or.inl ⟨by rfl, fun w hw => by (obtain ⟨z1, z2⟩ := hw; go_simp; try rfl)⟩) Hb.out ?_
    refine wpAnyZ_take (i := 5) (by simp only [List.getElem?_toArray, List.getElem?_cons_succ, List.getElem?_cons_zero]; rfl) (by kernel_rfl) (by kernel_rfl) (by kernel_rfl) (by kernel_rfl) (by intro _ _ _ h; exact h) (Or.inl ⟨by rfl, fun w hw => by (obtain ⟨z1, z2⟩ := hw; go_simp; try rfl)⟩) Hb.out ?_
    go_frame
    refine wpAnyZ_take (i := 6) (by simp only [List.getElem?_toArray, List.getElem?_cons_succ, List.getElem?_cons_zero]; rfl) (by kernel_rfl) (by kernel_rfl) (by kernel_rfl) (by kernel_rfl) (by intro _ _ _ h; exact h) (Or.inl ⟨by rfl, fun w hw => by (obtain ⟨z1, z2⟩ := hw; go_simp; try rfl)⟩) Hb.out ?_
    refine wpAnyZ_take (i := 7) (by simp only [List.getElem?_toArray, List.getElem?_cons_succ, List.getElem?_cons_zero]; rfl) (by kernel_rfl) (by kernel_rfl) (by kernel_rfl) (by kernel_rfl) (by intro _ _ _ h; exact h) (Or.inl ⟨by rfl, fun w hw => by (obtain ⟨z1, z2⟩ := hw; go_simp; try rfl)⟩) Hb.out ?_
    go_frame
    refine wpAnyZ_take (i := 8) (by simp only [List.getElem?_toArray, List.getElem?_cons_succ, List.getElem?_cons_zero]; rfl) (by kernel_rfl) (by kernel_rfl) (by kernel_rfl) (by kernel_rfl) (by intro _ _ _ h; exact h) (Or.inl ⟨by rfl, fun w hw => by (obtain ⟨z1, z2⟩ := hw; go_simp; try rfl)⟩) Hb.out ?_
    go_frame
    refine wpAnyZ_next (i := 9) (by kernel_rfl) (by simp only [List.getElem?_toArray, List.getElem?_cons_succ, List.getElem?_cons_zero]; rfl) (fun Kc hKc => ?_)
    obtain ⟨w4, hrun, hv4, hO4⟩ := HF0.out.1.map.put HF0.out.1.few x.name Hnm.out.1 Hnm.out.2 (av)
    have H4 := Lib.hid (And.intro (HF0.out.1.putV hO4 hv4 hav64) ((Oth.of_below (S := MT r mb c) HF0.out.2).trans (hO4.weak fun k (e : k = mb) => .inr (.inl e))))
    clear hv4 hO4
    go_simp
    refine hKc.out _ _ (fun h => absurd rfl h) ?_
    clear hKc Kc hrun
    refine wpAnyZ_done (by kernel_rfl) ?_ _
    go_wp2_with fail
    go_ret
    exact ⟨by rw [Hqn.out]; rfl, by rw [Hqn.out]; exact H4.out.1, (Oth.of_below H2.out).trans H4.out.2⟩
  · have hq1 : (x.kind == 1) = false := by simp [h7]
    have hq3 : (x.kind == 3) = false := by simp [h7]
    have hq4 : (x.kind == 4) = false := by simp [h7]
    have hq5 : (x.kind == 5) = false := by simp [h7]
    have hq6 : (x.kind == 6) = false := by simp [h7]
    have hq7 : (x.kind == 7) = true := by simp [h7]
    have Hqn : Hid (loopS (runsS most x.body) x.name most av ((evS m.V x.b - av).toNat) m = q) := by show _ = _; rw [Hq.out, runS_eq, if_pos h7, ← Hav.out]
    have hcl := mloop_any x b o va vb ve vc ad nd cd w0 Hst.out.1 Hst.out.2 N hnm hbs hds Hsub.out.1 Hsub.out.2 av hav64 w2 c r mb vw vf most m HBw.out hr0 HFw.out H.out.2.2.1 H.out.2.2.2 hmost
    rw [Hqn.out] at hcl
    have Hcl := Lib.hid hcl
    clear h7 hnm hbs hds hcl
    go_wp2_with fail
    refine Hcl.out.mono ?_
    rintro E w5 ⟨rfl, hF5, hO5⟩
    have H5 := Lib.hid (And.intro hF5 ((Oth.of_below H2.out).trans hO5))
    clear hF5 hO5 d0 d4 k0 Hcl
    go_wp2_with fail
    go_ret
    exact ⟨rfl, H5.out.1, H5.out.2⟩
set_option maxRecDepth 100000 in
set_option maxHeartbeats 4000000 in
theorem mlist_any (N : List ByteArray) (l : List St) (v : Value) (w0 : World) (h : StsIn w0 l v) : MlOk w0 N l v := by
  induction h with
  | mk l v va vb vd ve vc vk h ha hb hd he hc hk ihd ihe ihk =>
  intro hs W c r mb vw vf most m hB hr0 hF hem hrn hmost
  obtain ⟨a, cap, rfl, hncap, hcap⟩ := h.form
  obtain ⟨n, hn⟩ : ∃ n, n = l.length := ⟨_, rfl⟩
  have Hn := Lib.hid hn
  have Hrow : Hid (RowOf w0 (.slice a n cap) l.length 14 (fun b o i => ∀ x, l[i]? = some x → StAt w0 b o x (va i) (vb i) (vd i) (ve i) (vc i))) := by rw [hn]; exact h
  have Hsub := Lib.hid (And.intro ha (And.intro hb (And.intro hd ihd)))
  rw [← hn]
  rw [← hn] at hncap
  have hn62 : n ≤ 9223372036854775807 := by have : maxLen ≤ 9223372036854775807 := by decide
                                            omega
  obtain ⟨q, hq⟩ : ∃ q, q = runsS most l m := ⟨_, rfl⟩
  rw [← hq]
  have Hq := Lib.hid hq
  have H := Lib.hid (And.intro hF (And.intro hB (And.intro hem (And.intro hrn hs))))
  have hl := hF.lt
  clear h ha hb hd he hc hk ihd ihe ihk hn hs hB hF hem hrn hq
  go_enter Try.func78, Try.ntmps78
  go_wp2_with fail
  go_loopg [9] n (fun g iv wx => ∃ (i : Nat) (m1 : MS), g = n - i ∧ iv = .int .i64 (i : Int) ∧ i ≤ n ∧ FrAt wx c r mb vw vf most N m1 ∧ m1.e = 0 ∧ 0 ≤ m1.r ∧ Oth (MT r mb c) W wx ∧ runsS most (l.drop i) m1 = q)
  case atStart => exact ⟨0, m, rfl, rfl, Nat.zero_le _, H.out.1, H.out.2.2.1, H.out.2.2.2.1, .refl _ _, Hq.out.symm⟩
  case round =>
    obtain ⟨i, m1, hg, rfl, hi, hF1, he1, hr1, hO1, hqe⟩ := hrel
    have Hg := Lib.hid hg
    have HF1 := Lib.hid (And.intro hF1 (And.intro he1 hr1))
    have HO1 := Lib.hid hO1
    have Hqe := Lib.hid hqe
    have HBw : Hid (Below w0.heap.size w0 wr) := MT_below hO1 H.out.2.1 hr0 hl
    clear hg hF1 he1 hr1 hO1 hqe
    by_cases hin : i < n
    · obtain ⟨x, hx⟩ : ∃ x, l[i]? = some x := ⟨_, List.getElem?_eq_getElem (by rw [← Hn.out]; exact hin)⟩
      obtain ⟨b, off, rfl, hb, hP⟩ := Hrow.out.at (i := i) (by rw [← Hn.out]; exact hin)
      have hst := hP x hx
      obtain ⟨fa, fb, fd, ifd⟩ := Hsub.out
      obtain ⟨ad, cd, hvd, -⟩ := (fd i x hx).form
      have hld : MlOk w0 N x.body (vd i) := ifd i x hx
      rw [hvd] at hst hld
      have hcl := mstmt_any x b (off + i * 14) (va i) (vb i) (ve i) (vc i) ad x.body.length cd w0 hst hb N (St.simps_at H.out.2.2.2.2 hx) (mexpr_any _ _ _ (fa i x hx)) (mexpr_any _ _ _ (fb i x hx)) hld wr c r mb vw vf most m1 HBw.out hr0 HF1.out.1 HF1.out.2.1 HF1.out.2.2 hmost
      obtain ⟨q5, hq5⟩ : ∃ q5, q5 = runS most x m1 := ⟨_, rfl⟩
      rw [← hq5] at hcl
      have h2 := runS_two most x m1
      have hk := runS_keep most x m1 HF1.out.2.1 HF1.out.2.2
      have hdr : l.drop i = x :: l.drop (i + 1) := by
        rw [← List.getElem_cons_drop (by rw [← Hn.out]; exact hin)]
        congr 1
        exact (List.getElem?_eq_some_iff.1 hx).2
      have hun : q = if q5.1 = 0 then runsS most (l.drop (i + 1)) q5.2 else q5 := by
        rw [← Hqe.out, hdr]
        simp only [runsS]
        rw [← hq5]
      rw [← hq5] at h2 hk
      have Hcl := Lib.hid hcl
      have Hun := Lib.hid hun
      have Hk := Lib.hid hk
      obtain ⟨h5, m5⟩ := q5
      simp only at h2 Hcl Hun Hk
      clear hx hP hst fa fb fd ifd hvd hld hq5 hcl hun hk hdr
      go_wp2_with fail
      refine Hcl.out.mono ?_
      rintro E w5 ⟨rfl, hF5, hO5⟩
      have H5 := Lib.hid (And.intro hF5 (HO1.out.trans hO5))
      clear hF5 hO5 Hcl
      rcases h2 with rfl | rfl
      · have Hqn : Hid (runsS most (l.drop (i + 1)) m5 = q) := by show _ = _; rw [Hun.out]; rfl
        go_wp2_with fail
        go_roundg (n - (i + 1))
        case measure => have := Hg.out; omega
        case rel => exact ⟨i + 1, m5, rfl, by go_num, hin, H5.out.1, Hk.out.1 (by first | trivial | rfl), Hk.out.2, H5.out.2, Hqn.out⟩
      · have Hqn : Hid (q = (2, m5)) := by show _ = _; rw [Hun.out]; rfl
        go_wp2_with fail
        go_ret
        exact ⟨by rw [Hqn.out]; rfl, by rw [Hqn.out]; exact H5.out.1, H5.out.2⟩
    · obtain rfl : n = i := by omega
      have Hqn : Hid (q = (0, m1)) := by
        show _ = _
        rw [← Hqe.out, List.drop_of_length_le (by rw [← Hn.out]; exact Nat.le_refl _)]
        simp only [runsS]
      clear hin
      go_wp2_with fail
      go_ret
      exact ⟨by rw [Hqn.out]; rfl, by rw [Hqn.out]; exact HF1.out.1, HO1.out⟩
end Go.Proofs.Ytgcplcffejbniaa
