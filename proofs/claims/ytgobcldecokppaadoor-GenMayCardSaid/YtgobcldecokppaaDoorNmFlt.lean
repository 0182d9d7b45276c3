/- names: what the form's check says of a program; which function is wrong first. -/
import Derived.Test.YtgobcldecokppaaDoorNmStep
/- names: the walker at a statement whose lists' contracts are known. -/
namespace Go.Proofs.YtgobcldecokppaaDoor
open Go.RowKit Go.Maps

theorem not_dec_f {P : Prop} [Decidable P] (h : false = !decide P) : P := by
  by_cases p : P
  · exact p
  · rw [decide_eq_false p] at h; cases h
theorem not_dec_t {P : Prop} [Decidable P] (h : true = !decide P) : ¬ P := fun p => by rw [decide_eq_true p] at h; cases h
set_option maxRecDepth 100000 in
set_option maxHeartbeats 8000000 in
theorem nstmt_row (x : St) (aa ab ad ae ac : Option Addr) (na nb nd ne nc ca cb cd ce cc : Nat) (vk : Nat → Value) (w0 : World) (hnc : nc = x.cases.length)
    (hnc62 : nc ≤ 9223372036854775807) (fa : NExprOk w0 x.a.args (.slice aa na ca)) (fb : NExprOk w0 x.b.args (.slice ab nb cb)) (fd : NListOk w0 x.body (.slice ad nd cd)) (fe : NListOk w0 x.els (.slice ae ne ce))
    (fc : RowOf w0 (.slice ac nc cc) nc 2 (fun b o k => ∀ y, x.cases[k]? = some y → CsAt w0 b o y (vk k))) (fk : ∀ (j : Nat) y, x.cases[j]? = some y → StsIn w0 y.body (vk j) ∧ NListOk w0 y.body (vk j)) (hf : x.fine)
    (W : World) (c bk bf bc : Nat) (ov : Value) (K : Known) (G : List ByteArray) (C : List Int) (n loops : Int) (hB : Below w0.heap.size w0 W) (hcb : w0.heap.size ≤ bf) (hK : WAt W c bk bf bc ov K G C n loops)
    (hn0 : 0 ≤ n) (hn1 : n + (x.total : Int) ≤ 1000000) (hl0 : 0 ≤ loops) (hl1 : loops + (x.total : Int) ≤ 1000000) (hkl : K.length + x.total ≤ 100000) :
    Calls Tryd.prog 49 #[ptrV c, stVal x (.slice aa na ca) (.slice ab nb cb) (.slice ad nd cd) (.slice ae ne ce) (.slice ac nc cc)] W (fun E W' => E = .returned (.int .i64 (x.nchk K G loops).2) ∧ NPost W W' c bk bf bc ov K G C n loops (x.nchk K G loops) (x.nadd K) x.ncalls x.total) := by
  have hff := (St.fine_eq x).1 hf
  have hsz : x.name.size ≤ 16 := St.size_of_own hff.1
  have Hf := Lib.hid (And.intro hf hff)
  have Hy := Lib.hid (And.intro fa (And.intro fb (And.intro fd (And.intro fe (And.intro fc fk)))))
  have Hnc := Lib.hid hnc
  have Hxt : Hid (x.total = 1 + x.a.part + x.b.part + St.totals x.body + Cs.totals x.cases + St.totals x.els) := x.total_eq
  have Hbd := Lib.hid (And.intro hn1 (And.intro hl1 hkl))
  have hm1 : n ≤ 999999 := by have := Hxt.out; omega
  have hm2 : loops ≤ 999999 := by have := Hxt.out; omega
  have hm3 : K.length ≤ 99999 := by have := Hxt.out; omega
  have HB := Lib.hid hB
  have HK := Lib.hid hK
  obtain ⟨W1, hW1⟩ : ∃ W1, W1 = W.alloc (.cells #[.int .i64 x.kind, .string x.name, .int .i64 x.n, .int .i64 x.a.kind, .int .i64 x.a.n, .string x.a.name, .slice aa na ca, .int .i64 x.b.kind, .int .i64 x.b.n, .string x.b.name, .slice ab nb cb, .slice ad nd cd, .slice ae ne ce, .slice ac nc cc] 56) := ⟨_, rfl⟩
  have hb1 : Below W.heap.size W W1 := by rw [hW1]; exact (Below.refl _ _).alloc (Nat.le_refl _) _
  have hv1 : StAt W1 W.heap.size 0 x (.slice aa na ca) (.slice ab nb cb) (.slice ad nd cd) (.slice ae ne ce) (.slice ac nc cc) := by rw [hW1]; exact StAt.box _ _ _ _ _ _ _ _
  have hk1 := hK.later1 hb1
  have hlb := hK.lts
  have qc : c < W.heap.size := block_lt_of_cell hK.c2
  have q1 : W.heap.size < W1.heap.size := block_lt_of_cell hv1.c0
  have HnotD : Hid (¬ WT c bk bc ov W.heap.size) := not_wt (by omega) (by omega) (by omega) (fun k e => (hK.own k e).2)
  have hbc : bc < c := hlb.2.2
  have hbk : bk < bc := hlb.2.1
  have hbf : bf < bk := hlb.1
  obtain ⟨W2, hW2⟩ : ∃ W2, W2 = W1.setCell ⟨c, 4, none⟩ (.int .i64 (n + 1)) := ⟨_, rfl⟩
  have hk2 : WAt W2 c bk bf bc ov K G C (n + 1) loops := by rw [hW2]; exact hk1.putAt _
  have hs2 : WStep W1 W2 c bk bc ov ov := by rw [hW2]; exact .set _ _
  have hv2 := hv1.oth hs2.oth q1 HnotD.out
  have c4 := hk1.c4
  have f4 := hk1.f4
  have H1 := Lib.hid (And.intro hb1 (And.intro hv1 hk1))
  have H2 := Lib.hid (And.intro hk2 (And.intro hs2 hv2))
  have HB1 : Hid (Below w0.heap.size w0 W1) := hB.trans (hb1.mono hB.size)
  have HB2 : Hid (Below w0.heap.size w0 W2) := hs2.below hk1 HB1.out hcb
  have HW1 := Lib.hid hW1
  have HW2 := Lib.hid hW2
  unfold stVal
  clear fa fb fd fe fc fk hf hff hnc hn1 hl1 hkl hB hK hW1 hb1 hv1 hk1 hlb hW2 hk2 hs2 hv2
  go_enter Tryd.func49, Tryd.ntmps49
  go_upto_region 1 with (fail)
  rw [← HW1.out]
  go_upto_region 2 with (fail)
  rw [← HW2.out]
  obtain ⟨i0, i1, i2, i3, i4, i5, i6, i7, i8, i9, i10, i11, i12, i13⟩ := H2.out.2.2
  simp only [Nat.zero_add] at i1 i2 i3 i4 i5 i6 i7 i8 i9 i10 i11 i12 i13
  clear c4 f4
  go_wp2_with fail
  refine (nfirst_any x aa ab ad ae ac na nb nd ne nc ca cb cd ce cc w0 Hy.out.1 Hy.out.2.1 Hf.out.1 W2 c bk bf bc ov K G C (n + 1) loops HB2.out hcb H2.out.1).mono ?_
  rintro e w3 ⟨rfl, C3, hK3, hO3, hC3⟩
  have hs3 : WStep W1 w3 c bk bc ov ov := H2.out.2.1.trans (.of_calls hO3)
  have H3 := Lib.hid (And.intro hK3 (And.intro hs3 hC3))
  have HB3 : Hid (Below w0.heap.size w0 w3) := hs3.below H1.out.2.2 HB1.out hcb
  have q3 := hs3.oth.size
  have hv3 := H1.out.2.1.oth hs3.oth q1 HnotD.out
  obtain ⟨e0, he0⟩ : ∃ e, e = x.nfirst K G loops := ⟨_, rfl⟩
  have He0 := Lib.hid he0
  rw [← he0]
  have Hchk : Hid (x.nchk K G loops = after (1, e0) (if x.kind = 7 then (if kindOf K x.name ≠ 0 then (0, 9) else St.nchks (K ++ [(x.name, 4)]) G (loops + 1) x.body) else if (x.kind = 1 ∨ x.kind = 2) ∧ kindOf K x.name ≠ 0 then (0, 9) else after (St.nchks (x.nadd K) G loops x.body) (after (Cs.nchks (x.nadd K) G loops x.cases) (St.nchks (x.nadd K) G loops x.els)))) := by
    show _ = _
    rw [St.nchk_eq, ← he0]
  obtain ⟨V, hV⟩ : ∃ V : World, V = w3 := ⟨_, rfl⟩
  subst hV
  clear i0 i1 i2 i3 i4 i5 i6 i7 i8 i9 i10 i11 i12 i13 hK3 hO3 hC3 hs3 he0
  by_cases hz : e0 = 0
  · subst hz
    have Hv := Lib.hid hv3
    obtain ⟨i0, i1, i2, i3, i4, i5, i6, i7, i8, i9, i10, i11, i12, i13⟩ := hv3
    simp only [Nat.zero_add] at i1 i2 i3 i4 i5 i6 i7 i8 i9 i10 i11 i12 i13
    clear i2 i3 i4 i5 i6 i7 i8 i9 i10 i12 i13
    go_upto_block 0 with (fail)
    obtain ⟨okB, hokB⟩ : ∃ b, b = !decide ((x.kind = 1 ∨ x.kind = 2) ∧ kindOf K x.name ≠ 0) := ⟨_, rfl⟩
    have HokB := Lib.hid hokB
    go_cut [1, 6, 27] (fun _ s6 _ wc => s6 = .bool okB ∧ x.kind ≠ 7 ∧ ∃ (ov' : Value) (D : Known), WAt wc c bk bf bc ov' (K ++ D) G C3 (n + 1) loops ∧ WStep W1 wc c bk bc ov ov' ∧ D.length ≤ 1 ∧ (okB = true → K ++ D = x.nadd K))
    case first =>
      clear HokB
      by_cases h1 : x.kind = 1
      · have Hne : Hid (x.kind ≠ 7) := by show _ ≠ _; omega
        have hq1 : (x.kind == 1) = true := by simp [h1]
        have Hnd : Hid (x.nadd K = K ++ [(x.name, 2)]) := by show _ = _; unfold St.nadd; simp [h1]
        have Hok : Hid (okB = decide (kindOf K x.name = 0)) := by show _ = _; rw [hokB]; simp [h1]

        clear h1 hokB
        go_wp2_with fail
        go_still_tail 5, (by kernel_rfl)
        change wpList _ _ _ _ _ V.drew
        have hd : Below V.heap.size V V.drew := (Below.refl _ _).drew
        have hkd := H3.out.1.later1 hd
        have Hkd := Lib.hid hkd
        have Had := Lib.hid (add_any c bk ov K x.name 2 V.drew hkd.sc hsz (by decide) (by omega))
        clear hkd hd i0 i1 i11
        go_wp2_with fail
        refine Had.out.mono ?_
        rintro e w4 (⟨hk, rfl, hw⟩ | ⟨hk0, rfl, ov4, hs4, hO4, hN4, hKp4⟩)
        · subst hw
          have Hok2 : Hid (okB = false) := by show _ = _; rw [Hok.out, decide_eq_false hk]
          clear hk Had
          go_wp2_with fail
          go_meet
          case rel => exact ⟨by rw [Hok2.out], Hne.out, ov, [], by rw [List.append_nil]; exact Hkd.out, H3.out.2.1.trans (.of_below (Below.refl _ _).drew), by simp, fun h => by rw [Hok2.out] at h; cases h⟩
        · have Hok2 : Hid (okB = true) := by show _ = _; rw [Hok.out, decide_eq_true hk0]
          have H4 := Lib.hid (And.intro hs4 (And.intro hO4 (And.intro hN4 hKp4)))
          clear hk0 Had hs4 hO4 hN4 hKp4
          go_wp2_with fail
          go_meet
          case rel => exact ⟨by rw [Hok2.out], Hne.out, ov4, [(x.name, 2)], Hkd.out.scope H4.out.1 H4.out.2.1 H4.out.2.2.2, (H3.out.2.1.trans (.of_below (Below.refl _ _).drew)).trans (.of_scope H4.out.2.1 H4.out.2.2.1), by simp, fun _ => Hnd.out.symm⟩
      by_cases h2 : x.kind = 2
      · have Hne : Hid (x.kind ≠ 7) := by show _ ≠ _; omega
        have hq1 : (x.kind == 1) = false := by simp [h1]
        have hq2 : (x.kind == 2) = true := by simp [h2]
        have Hnd : Hid (x.nadd K = K ++ [(x.name, 3)]) := by show _ = _; unfold St.nadd; simp [h2]
        have Hok : Hid (okB = decide (kindOf K x.name = 0)) := by show _ = _; rw [hokB]; simp [h2]

        clear h1 h2 hokB
        go_wp2_with fail
        go_still_tail 5, (by kernel_rfl)
        change wpList _ _ _ _ _ V.drew
        have hd : Below V.heap.size V V.drew := (Below.refl _ _).drew
        have hkd := H3.out.1.later1 hd
        have Hkd := Lib.hid hkd
        have Had := Lib.hid (add_any c bk ov K x.name 3 V.drew hkd.sc hsz (by decide) (by omega))
        clear hkd hd i0 i1 i11
        go_wp2_with fail
        refine Had.out.mono ?_
        rintro e w4 (⟨hk, rfl, hw⟩ | ⟨hk0, rfl, ov4, hs4, hO4, hN4, hKp4⟩)
        · subst hw
          have Hok2 : Hid (okB = false) := by show _ = _; rw [Hok.out, decide_eq_false hk]
          clear hk Had
          go_wp2_with fail
          go_meet
          case rel => exact ⟨by rw [Hok2.out], Hne.out, ov, [], by rw [List.append_nil]; exact Hkd.out, H3.out.2.1.trans (.of_below (Below.refl _ _).drew), by simp, fun h => by rw [Hok2.out] at h; cases h⟩
        · have Hok2 : Hid (okB = true) := by show _ = _; rw [Hok.out, decide_eq_true hk0]
          have H4 := Lib.hid (And.intro hs4 (And.intro hO4 (And.intro hN4 hKp4)))
          clear hk0 Had hs4 hO4 hN4 hKp4
          go_wp2_with fail
          go_meet
          case rel => exact ⟨by rw [Hok2.out], Hne.out, ov4, [(x.name, 3)], Hkd.out.scope H4.out.1 H4.out.2.1 H4.out.2.2.2, (H3.out.2.1.trans (.of_below (Below.refl _ _).drew)).trans (.of_scope H4.out.2.1 H4.out.2.2.1), by simp, fun _ => Hnd.out.symm⟩
      have hq1 : (x.kind == 1) = false := by simp [h1]
      have hq2 : (x.kind == 2) = false := by simp [h2]
      by_cases h7 : x.kind = 7
      · have hq7 : (x.kind == 7) = true := by simp [h7]
        have hform := St.formed_parts (St.own_formed Hf.out.2.1).1
        have hels : x.els = [] := by
          rcases hform.2.2.2.2.2.1 with h | h
          · rw [h7] at h; exact absurd h (by decide)
          · exact h
        have hcas : x.cases = [] := by
          rcases hform.2.2.2.2.2.2 with h | h
          · rw [h7] at h; exact absurd h (by decide)
          · exact h
        have Hcalls : Hid (x.ncalls = x.nownc ++ St.ncallss x.body) := by show _ = _; rw [St.ncalls_eq, hels, hcas]; simp [St.ncallss, Cs.ncallss]
        have Hnd : Hid (x.nadd K = K) := by show _ = _; unfold St.nadd; rw [if_neg h1, if_neg h2]
        have Hchk2 : Hid (x.nchk K G loops = after (1, 0) (if kindOf K x.name ≠ 0 then (0, 9) else St.nchks (K ++ [(x.name, 4)]) G (loops + 1) x.body)) := by show _ = _; rw [Hchk.out, if_pos h7]
        obtain ⟨kn, hkn⟩ : ∃ kn, kn = K.length := ⟨_, rfl⟩
        obtain ⟨ao, co, hov⟩ := H3.out.1.len
        have c1 := H3.out.1.sc.c1
        rw [← hkn] at hov
        rw [hov] at c1
        have hd : Below V.heap.size V V.drew := (Below.refl _ _).drew
        have hkd := H3.out.1.later1 hd
        have Hkd := Lib.hid hkd
        have Had := Lib.hid (add_any c bk ov K x.name 4 V.drew hkd.sc hsz (by decide) (by omega))
        have Hkn := Lib.hid (And.intro hkn hov)
        clear h1 h2 h7 hokB hform hels hcas hkd hd hkn hov
        go_wp2_with fail
        go_still_tail 5, (by kernel_rfl)
        change wpList _ _ _ _ _ V.drew
        clear i0 i1 i11 c1
        have i1 := (Hv.out.later (Below.refl _ _).drew (by omega)).c1
        simp only [Nat.zero_add] at i1
        go_wp2_with fail
        refine Had.out.mono ?_
        rintro e w4 (⟨hk, rfl, hw⟩ | ⟨hk0, rfl, ov4, hs4, hO4, hN4, hKp4⟩)
        · subst hw
          have Hres : Hid (x.nchk K G loops = (1, 9)) := by show _ = _; rw [Hchk2.out, if_pos hk]; rfl
          clear hk Had i1
          go_wp2_with fail
          go_ret
          exact ⟨by rw [Hres.out]; rfl, ov, [], C3, by rw [List.append_nil, Hres.out]; exact Hkd.out, (WStep.of_below H1.out.1).trans (H3.out.2.1.trans (.of_below (Below.refl _ _).drew)), by simp, fun h => by rw [Hres.out] at h; cases h⟩
        · have hk4 : WAt w4 c bk bf bc ov4 (K ++ [(x.name, 4)]) G C3 (n + 1) loops := Hkd.out.scope hs4 hO4 hKp4
          have hs14 : WStep W1 w4 c bk bc ov ov4 := (H3.out.2.1.trans (.of_below (Below.refl _ _).drew)).trans (.of_scope hO4 hN4)
          obtain ⟨l1, hl1⟩ : ∃ l1, l1 = loops + 1 := ⟨_, rfl⟩
          have hl1a : 1 ≤ l1 := by omega
          have hl1b : l1 ≤ 1000000 := by omega
          obtain ⟨W5, hW5⟩ : ∃ W5, W5 = w4.setCell ⟨c, 5, none⟩ (.int .i64 (loops + 1)) := ⟨_, rfl⟩
          have hk5 : WAt W5 c bk bf bc ov4 (K ++ [(x.name, 4)]) G C3 (n + 1) l1 := by rw [hW5, hl1]; exact hk4.putLoops _
          have hs15 : WStep W1 W5 c bk bc ov ov4 := hs14.trans (by rw [hW5]; exact .set _ _)
          have Hres : Hid (x.nchk K G loops = after (1, 0) (St.nchks (K ++ [(x.name, 4)]) G l1 x.body)) := by show _ = _; rw [Hchk2.out, if_neg (by rw [hk0]; decide), hl1]
          have HB5 : Hid (Below w0.heap.size w0 W5) := hs15.below H1.out.2.2 HB1.out hcb
          have hv5 := H1.out.2.1.oth hs15.oth q1 HnotD.out
          have c5 := hk4.c5
          have f5 := hk4.f5
          have H5 := Lib.hid (And.intro hk5 hs15)
          have HW5 := Lib.hid hW5
          have Hl1 := Lib.hid hl1
          have q5 := hs15.oth.size
          clear hk0 Had hs4 hO4 hN4 hKp4 hk4 hs14 hW5 hk5 hs15 hl1 i1
          go_upto_region 16 with (fail)
          rw [← HW5.out]
          obtain ⟨i0, i1, i2, i3, i4, i5, i6, i7, i8, i9, i10, i11, i12, i13⟩ := hv5
          simp only [Nat.zero_add] at i11
          clear i0 i1 i2 i3 i4 i5 i6 i7 i8 i9 i10 i12 i13 c5 f5
          go_wp2_with fail
          refine (Hy.out.2.2.1 Hf.out.2.2.2.2.1 W5 c bk bf bc ov4 (K ++ [(x.name, 4)]) G C3 (n + 1) l1 HB5.out hcb H5.out.1 (by omega) (by have h1 := Hbd.out; have h2 := Hxt.out; omega) (by omega) (by have h1 := Hbd.out; have h2 := Hxt.out; have h3 := Hl1.out; omega) (by have h1 := Hbd.out; have h2 := Hxt.out; simp; omega)).mono ?_
          rintro e w6 ⟨rfl, ov6, D6, C6, hK6, hs6, hD6, hC6⟩
          obtain ⟨r, hr⟩ : ∃ r, r = St.nchks (K ++ [(x.name, 4)]) G l1 x.body := ⟨_, rfl⟩
          rw [← hr] at hK6 hC6
          rw [← hr]
          have hs16 := H5.out.2.trans hs6
          obtain ⟨W7, hW7⟩ : ∃ W7, W7 = w6.setCell ⟨c, 5, none⟩ (.int .i64 (l1 - 1)) := ⟨_, rfl⟩
          have hk7 : WAt W7 c bk bf bc ov6 (K ++ [(x.name, 4)] ++ D6) G C6 (n + 1 + (r.1 : Int)) (l1 - 1) := by rw [hW7]; exact hK6.putLoops _
          have hs17 : WStep W1 W7 c bk bc ov ov6 := hs16.trans (by rw [hW7]; exact .set _ _)
          have c5 := hK6.c5
          have f5 := hK6.f5
          have H7 := Lib.hid (And.intro hk7 (And.intro hs17 (And.intro hD6 hC6)))
          have HW7 := Lib.hid hW7
          have Hr := Lib.hid hr
          have hfg := forget_any c bk ov6 (K ++ [(x.name, 4)] ++ D6) kn W7 hk7.sc (by rw [Hkn.out.1]; simp) (by have h1 := Hbd.out; have h2 := Hxt.out; simp; omega)
          have Hfg := Lib.hid hfg
          clear hr hK6 hs6 hD6 hC6 hs16 hW7 hk7 hs17 hfg i11
          go_upto_region 18 with (fail)
          rw [← HW7.out]
          clear c5 f5
          go_wp2_with fail
          refine Hfg.out.mono ?_
          rintro e w8 ⟨rfl, ov8, hs8, hO8, hN8, hKp8⟩
          have hk8 := (H7.out.1.scope hs8 hO8 hKp8).to (K' := K) (by rw [Hkn.out.1, List.append_assoc, List.take_left']; rfl) rfl (by have := Hl1.out; omega : l1 - 1 = loops)
          have H8 := Lib.hid (And.intro hk8 (H7.out.2.1.trans (.of_scope hO8 hN8)))
          clear hs8 hO8 hN8 hKp8 hk8 Hfg
          go_wp2_with fail
          go_ret
          have hres : x.nchk K G loops = (1 + r.1, r.2) := by rw [Hres.out, ← Hr.out, after_ok rfl]
          refine ⟨by rw [hres]; rfl, ov8, [], C6, by rw [List.append_nil]; exact H8.out.1.to rfl (by rw [hres]; simp only; omega) rfl, (WStep.of_below H1.out.1).trans H8.out.2, by simp, fun h => ⟨by rw [List.append_nil, Hnd.out], fun i => ?_⟩⟩
          rw [hres] at h
          rw [(H7.out.2.2.2 h).2 i, H3.out.2.2 He0.out.symm i, Hcalls.out, idxs_append, or_assoc]
      · have hq7 : (x.kind == 7) = false := by simp [h7]
        have Hne : Hid (x.kind ≠ 7) := h7
        have Hok : Hid (okB = true) := by show _ = _; rw [hokB]; simp; omega
        have Hnd : Hid (x.nadd K = K) := by show _ = _; unfold St.nadd; rw [if_neg h1, if_neg h2]
        clear h1 h2 h7 hokB i0 i1 i11
        go_wp2_with fail
        go_meet
        case rel => exact ⟨by rw [Hok.out], Hne.out, ov, [], by rw [List.append_nil]; exact H3.out.1, H3.out.2.1, by simp, fun _ => by rw [Hnd.out, List.append_nil]⟩
    case rest =>
      obtain ⟨rfl, hn7, ov5, D5, hK5, hs5, hD5, hok5⟩ := hcut
      obtain ⟨V5, hV5⟩ : ∃ V : World, V = wc := ⟨_, rfl⟩
      subst hV5
      have q5 := hs5.oth.size
      have hv5 := H1.out.2.1.oth hs5.oth q1 HnotD.out
      have HB5 : Hid (Below w0.heap.size w0 V5) := hs5.below H1.out.2.2 HB1.out hcb
      have Hv5 := Lib.hid hv5
      have Hchk2 : Hid (x.nchk K G loops = after (1, 0) (if (x.kind = 1 ∨ x.kind = 2) ∧ kindOf K x.name ≠ 0 then (0, 9) else after (St.nchks (x.nadd K) G loops x.body) (after (Cs.nchks (x.nadd K) G loops x.cases) (St.nchks (x.nadd K) G loops x.els)))) := by show _ = _; rw [Hchk.out, if_neg hn7]
      clear hn7 i0 i1 i11 hokB
      cases okB
      · have Hres : Hid (x.nchk K G loops = (1, 9)) := by
          show _ = _
          have h := HokB.out
          rw [Hchk2.out, if_pos (not_dec_f h)]
          rfl
        have H5 := Lib.hid (And.intro hK5 (And.intro hs5 hD5))
        clear hv5 hK5 hs5 hD5 hok5
        go_wp2_with fail
        go_ret
        exact ⟨by rw [Hres.out]; rfl, ov5, D5, C3, by rw [Hres.out]; exact H5.out.1, (WStep.of_below H1.out.1).trans H5.out.2.1, by have h1 := H5.out.2.2; have h2 := Hxt.out; omega, fun h => by rw [Hres.out] at h; cases h⟩
      · obtain ⟨K1, hK1⟩ : ∃ K1, K1 = x.nadd K := ⟨_, rfl⟩
        have hKD : K ++ D5 = K1 := by rw [hok5 rfl, hK1]
        have Hres : Hid (x.nchk K G loops = after (1, 0) (after (St.nchks K1 G loops x.body) (after (Cs.nchks K1 G loops x.cases) (St.nchks K1 G loops x.els)))) := by
          show _ = _
          have h := HokB.out
          rw [Hchk2.out, if_neg (not_dec_t h), hK1]
        have hl1 : K1.length ≤ K.length + 1 := by rw [← hKD]; simp; omega
        have H5 := Lib.hid (And.intro (hK5.to hKD rfl rfl) (And.intro hs5 (And.intro hD5 (And.intro hKD hK1))))
        obtain ⟨i0, i1, i2, i3, i4, i5, i6, i7, i8, i9, i10, i11, i12, i13⟩ := hv5
        simp only [Nat.zero_add] at i11
        clear i0 i1 i2 i3 i4 i5 i6 i7 i8 i9 i10 i12 i13 hK5 hs5 hD5 hok5 hK1 hKD Hchk2 Hchk
        go_wp2_with fail
        refine (Hy.out.2.2.1 Hf.out.2.2.2.2.1 V5 c bk bf bc ov5 K1 G C3 (n + 1) loops HB5.out hcb H5.out.1 (by omega) (by have h1 := Hbd.out; have h2 := Hxt.out; omega) (by omega) (by have h1 := Hbd.out; have h2 := Hxt.out; omega) (by have h1 := Hbd.out; have h2 := Hxt.out; omega)).mono ?_
        rintro e w6 ⟨rfl, ov6, D6, C6, hK6, hs6, hD6, hC6⟩
        obtain ⟨r, hr⟩ : ∃ r, r = St.nchks K1 G loops x.body := ⟨_, rfl⟩
        have Hr1 : Hid (r.1 ≤ St.totals x.body) := by show _ ≤ _; rw [hr]; exact St.nchks_le _ _ _ _
        rw [← hr] at hK6 hC6
        rw [← hr]
        have hs16 := H5.out.2.1.trans hs6
        have Hr := Lib.hid hr
        have H6 := Lib.hid (And.intro hK6 (And.intro hs16 (And.intro hD6 hC6)))
        have q6 := hs6.oth.size
        have hv6 := H1.out.2.1.oth hs16.oth q1 HnotD.out
        have HB6 : Hid (Below w0.heap.size w0 w6) := hs16.below H1.out.2.2 HB1.out hcb
        obtain ⟨V6, hV6⟩ : ∃ V : World, V = w6 := ⟨_, rfl⟩
        subst hV6
        clear hr hK6 hs6 hs16 hD6 hC6 i11
        by_cases hz : r.2 = 0
        · have hq : (r.2 != 0) = false := by simp [hz]
          have hres2 : x.nchk K G loops = after (1 + r.1, 0) (after (Cs.nchks K1 G loops x.cases) (St.nchks K1 G loops x.els)) := by
            rw [Hres.out, ← Hr.out, ← after_assoc, after_ok (r := ((1 : Nat), (0 : Int))) rfl, hz]
          obtain ⟨t, ht⟩ : ∃ t, t = 1 + r.1 := ⟨_, rfl⟩
          rw [← ht] at hres2
          obtain ⟨hd6, hc6⟩ := H6.out.2.2.2 hz
          have hk6 : WAt V6 c bk bf bc ov6 K1 G C6 (n + (t : Int)) loops := H6.out.1.to hd6 (by omega) rfl
          have hc6' : ∀ i, i ∈ C6 ↔ i ∈ C ∨ idxs G (x.nownc ++ St.ncallss x.body) i := fun i => by rw [hc6 i, H3.out.2.2 He0.out.symm i, idxs_append, or_assoc]
          have ht2 : t ≤ 1 + St.totals x.body := by have := Hr1.out; omega
          have Hres2 := Lib.hid hres2
          have Hc6 := Lib.hid (And.intro hk6 hc6')
          obtain ⟨i0, i1, i2, i3, i4, i5, i6, i7, i8, i9, i10, i11, i12, i13⟩ := hv6
          simp only [Nat.zero_add] at i13
          have Ht2 := Lib.hid ht2
          clear hz hres2 ht hd6 hc6 hk6 hc6' i0 i1 i2 i3 i4 i5 i6 i7 i8 i9 i10 i11 i12 ht2
          go_wp2_with fail
          go_loopg [95] nc (fun g jv wx => ∃ (j : Nat) (ovj : Value) (Cj : List Int), g = nc - j ∧ jv = .int .i64 (j : Int) ∧ j ≤ nc ∧ WAt wx c bk bf bc ovj K1 G Cj (n + (t : Int) + ((Cs.nchks K1 G loops (x.cases.take j)).1 : Int)) loops ∧ WStep W1 wx c bk bc ov ovj ∧
            (Cs.nchks K1 G loops (x.cases.take j)).2 = 0 ∧ ∀ i, i ∈ Cj ↔ i ∈ C ∨ idxs G ((x.nownc ++ St.ncallss x.body) ++ Cs.ncallss (x.cases.take j)) i)
          case atStart => exact ⟨0, ov6, C6, rfl, rfl, Nat.zero_le _, Hc6.out.1.to rfl (by simp [Cs.nchks]) rfl, H6.out.2.1, by simp [Cs.nchks], by simpa [Cs.ncallss] using Hc6.out.2⟩
          case round =>
            obtain ⟨j, ovj, Cj, hg, rfl, hj, hKj, hsj, hzj, hcj⟩ := hrel
            have Hg := Lib.hid hg
            have Hj := Lib.hid (And.intro hKj (And.intro hsj (And.intro hzj hcj)))
            have HBj : Hid (Below w0.heap.size w0 wr) := hsj.below H1.out.2.2 HB1.out hcb
            have qj := hsj.oth.size
            have hvj := H1.out.2.1.oth hsj.oth q1 HnotD.out
            obtain ⟨tj, htj⟩ : ∃ t, t = (Cs.nchks K1 G loops (x.cases.take j)).1 := ⟨_, rfl⟩
            have Htj : Hid (tj ≤ Cs.totals (x.cases.take j)) := by show _ ≤ _; rw [htj]; exact Cs.nchks_le _ _ _ _
            have Htj2 := Lib.hid htj
            obtain ⟨i0, i1, i2, i3, i4, i5, i6, i7, i8, i9, i10, i11, i12, i14⟩ := hvj
            simp only [Nat.zero_add] at i12
            clear hg hKj hsj hzj hcj htj i0 i1 i2 i3 i4 i5 i6 i7 i8 i9 i10 i11 i13 i14
            by_cases hjn : j < nc
            · obtain ⟨y, hy⟩ : ∃ y, x.cases[j]? = some y := ⟨_, List.getElem?_eq_getElem (by rw [← Hnc.out]; exact hjn)⟩
              obtain ⟨bx, ox, rfl, hbx, hPc⟩ := Hy.out.2.2.2.2.1.at (i := j) hjn
              have hcs := (hPc y hy).later HBj.out hbx
              obtain ⟨hsb, hib⟩ := Hy.out.2.2.2.2.2 j y hy
              obtain ⟨ay, cy, hvy, -⟩ := hsb.form
              obtain ⟨ny, hny⟩ : ∃ n, n = y.body.length := ⟨_, rfl⟩
              rw [hvy, ← hny] at hcs hib
              obtain ⟨j0, j1⟩ := hcs
              have hyt : St.totals y.body ≤ y.total := by rw [Cs.total_eq]; omega
              have htt := Cs.totals_take hy
              have htl := Cs.totals_le (l := x.cases) (j + 1)
              have hfy : St.fines y.body := (Cs.fine_eq y).1 (Cs.fines_at Hf.out.2.2.2.2.2.1 hy)
              obtain ⟨Y1, hY1⟩ : ∃ Y1, Y1 = wr.alloc (.cells #[.int .i64 y.n, .slice ay ny cy] 90) := ⟨_, rfl⟩
              have hbY : Below wr.heap.size wr Y1 := by rw [hY1]; exact (Below.refl _ _).alloc (Nat.le_refl _) _
              have hcY : CsAt Y1 wr.heap.size 0 y (.slice ay ny cy) := by rw [hY1]; constructor <;> exact World.cell?_alloc_at _ _ _ _ rfl
              have hkY := Hj.out.1.later1 hbY
              have hsY : WStep W1 Y1 c bk bc ov ovj := Hj.out.2.1.trans (.of_below hbY)
              have HBY : Hid (Below w0.heap.size w0 Y1) := HBj.out.trans (hbY.mono HBj.out.size)
              have Hcall := Lib.hid (hib hfy Y1 c bk bf bc ovj K1 G Cj (n + (t : Int) + (tj : Int)) loops HBY.out hcb (hkY.to rfl (by rw [Htj2.out]) rfl) (by omega)
                (by have h1 := Hbd.out; have h2 := Hxt.out; have h3 := Ht2.out; have h4 := Htj.out; omega) hl0 (by have h1 := Hbd.out; have h2 := Hxt.out; omega) (by have h1 := Hbd.out; have h2 := Hxt.out; omega))
              have HY := Lib.hid (And.intro hsY hy)
              have HY1 := Lib.hid hY1
              have HcY := Lib.hid hcY
              clear hPc hy hsb hib hvy hny hyt htt htl hfy hY1 hbY hcY hkY hsY i12
              go_upto_region 28 with (fail)
              rw [← HY1.out]
              obtain ⟨l0, l1⟩ := HcY.out
              simp only [Nat.zero_add] at l1
              clear j0 j1 l0
              go_wp2_with fail
              refine Hcall.out.mono ?_
              rintro e w9 ⟨rfl, ov9, D9, C9, hK9, hs9, hD9, hC9⟩
              have hcn := Cs.nchk_eq K1 G loops y
              rw [← hcn] at hK9 hC9
              rw [← hcn]
              obtain ⟨p, hp⟩ : ∃ p, p = y.nchk K1 G loops := ⟨_, rfl⟩
              rw [← hp] at hK9 hC9
              rw [← hp]
              have Hp := Lib.hid hp
              have H9 := Lib.hid (And.intro hK9 (And.intro (HY.out.1.trans hs9) (And.intro hD9 hC9)))
              clear hcn hp hK9 hs9 hD9 hC9 l1 Hcall
              by_cases hpz : p.2 = 0
              · have hq : (p.2 != 0) = false := by simp [hpz]
                have Hpz := Lib.hid hpz
                clear hpz
                go_wp2_with fail
                go_roundg (nc - (j + 1))
                case measure => have := Hg.out; omega
                case rel =>
                  have hnx := Cs.nchks_next (K := K1) (G := G) (loops := loops) HY.out.2
                  rw [after_ok Hj.out.2.2.1, ← Hp.out, ← Htj2.out] at hnx
                  obtain ⟨e1, e2⟩ := H9.out.2.2.2 Hpz.out
                  refine ⟨j + 1, ov9, C9, rfl, by go_num, by omega, H9.out.1.to e1 (by rw [hnx]; simp only; omega) rfl, H9.out.2.1, by rw [hnx]; exact Hpz.out, fun i => ?_⟩
                  rw [e2 i, Hj.out.2.2.2 i, Cs.ncallss_take HY.out.2, Cs.ncalls_eq, ← List.append_assoc, idxs_append G (x.nownc ++ St.ncallss x.body ++ Cs.ncallss (x.cases.take j)), or_assoc]
              · have hq : (p.2 != 0) = true := by simp [hpz]
                have Hfin : Hid (x.nchk K G loops = (t + (tj + p.1), p.2) ∧ p.2 ≠ 0) := by
                  refine ⟨?_, hpz⟩
                  have hh := Cs.nchks_hit (K := K1) (G := G) (loops := loops) HY.out.2 Hj.out.2.2.1 (by rw [← Hp.out]; exact hpz)
                  rw [← Hp.out, ← Htj2.out] at hh
                  rw [Hres2.out, hh, after_err (r := (tj + p.1, p.2)) hpz, after_ok rfl]
                clear hpz
                go_wp2_with fail
                go_ret
                refine ⟨by rw [Hfin.out.1]; rfl, ov9, D5 ++ D9, C9, H9.out.1.to (by rw [← List.append_assoc, H5.out.2.2.2.1]) (by rw [Hfin.out.1]; simp only; omega) rfl, (WStep.of_below H1.out.1).trans H9.out.2.1, ?_, fun h => absurd (by rw [Hfin.out.1] at h; exact h) Hfin.out.2⟩
                have h1 := H9.out.2.2.1
                have h2 := Hxt.out
                have h3 := H5.out.2.2.1
                have h4 := Cs.totals_take HY.out.2
                have h5 := Cs.totals_le (l := x.cases) (j + 1)
                have h6 := Cs.total_eq y
                simp
                omega
            · obtain rfl : nc = j := by omega
              have htk : x.cases.take nc = x.cases := List.take_of_length_le (by rw [← Hnc.out]; exact Nat.le_refl _)
              have hbound : n + (t : Int) + (tj : Int) + (St.totals x.els : Int) ≤ 1000000 := by
                have h1 := Hbd.out
                have h2 := Hxt.out
                have h3 := Ht2.out
                have h4 := Htj.out
                rw [htk] at h4
                omega
              have Hcall := Lib.hid (Hy.out.2.2.2.1 Hf.out.2.2.2.2.2.2 wr c bk bf bc ovj K1 G Cj (n + (t : Int) + (tj : Int)) loops HBj.out hcb (Hj.out.1.to rfl (by rw [Htj2.out]) rfl) (by omega) hbound hl0 (by have h1 := Hbd.out; have h2 := Hxt.out; omega) (by have h1 := Hbd.out; have h2 := Hxt.out; omega))
              have Htk := Lib.hid htk
              clear hjn htk hbound
              go_wp2_with fail
              refine Hcall.out.mono ?_
              rintro e w9 ⟨rfl, ov9, D9, C9, hK9, hs9, hD9, hC9⟩
              obtain ⟨p, hp⟩ : ∃ p, p = St.nchks K1 G loops x.els := ⟨_, rfl⟩
              rw [← hp] at hK9 hC9
              rw [← hp]
              have Hp := Lib.hid hp
              have H9 := Lib.hid (And.intro hK9 (And.intro (Hj.out.2.1.trans hs9) (And.intro hD9 hC9)))
              clear hp hK9 hs9 hD9 hC9 i12 Hcall
              go_wp2_with fail
              go_ret
              have hj0 := Hj.out
              have ht0 := Htj2.out
              rw [Htk.out] at hj0 ht0
              have hfin : x.nchk K G loops = (t + (tj + p.1), p.2) := by
                rw [Hres2.out, ← Hp.out, after_ok (r := ((t : Nat), (0 : Int))) rfl, after_ok hj0.2.2.1, ← ht0]
              refine ⟨by rw [hfin]; rfl, ov9, D5 ++ D9, C9, H9.out.1.to (by rw [← List.append_assoc, H5.out.2.2.2.1]) (by rw [hfin]; simp only; omega) rfl, (WStep.of_below H1.out.1).trans H9.out.2.1, ?_, fun h => ?_⟩
              · have h1 := H9.out.2.2.1
                have h2 := Hxt.out
                have h3 := H5.out.2.2.1
                simp
                omega
              · rw [hfin] at h
                obtain ⟨e1, e2⟩ := H9.out.2.2.2 h
                refine ⟨by rw [← List.append_assoc, H5.out.2.2.2.1, e1, H5.out.2.2.2.2], fun i => ?_⟩
                rw [e2 i, hj0.2.2.2 i, St.ncalls_eq, ← List.append_assoc, ← List.append_assoc, idxs_append G (x.nownc ++ St.ncallss x.body ++ Cs.ncallss x.cases), or_assoc]
        · have hq : (r.2 != 0) = true := by simp [hz]
          have Hres2 : Hid (x.nchk K G loops = (1 + r.1, r.2) ∧ r.2 ≠ 0) := by
            refine ⟨?_, hz⟩
            rw [Hres.out, ← Hr.out, after_err hz, after_ok rfl]
          clear hz hv6
          go_wp2_with fail
          go_ret
          refine ⟨by rw [Hres2.out.1]; rfl, ov6, D5 ++ D6, C6, ?_, (WStep.of_below H1.out.1).trans H6.out.2.1, by have h1 := H6.out.2.2.1; have h2 := Hxt.out; have h3 := H5.out.2.2.1; simp; omega, fun h => absurd (by rw [Hres2.out.1] at h; exact h) Hres2.out.2⟩
          exact H6.out.1.to (by rw [← List.append_assoc, H5.out.2.2.2.1]) (by rw [Hres2.out.1]; simp only; omega) rfl
  · have hq : (e0 != 0) = true := by simp [hz]
    have Hres : Hid (x.nchk K G loops = (1, e0) ∧ e0 ≠ 0) := by
      constructor
      · rw [Hchk.out]; exact after_err hz
      · exact hz
    clear hv3 hz
    go_wp2_with fail
    go_ret
    exact ⟨by rw [Hres.out.1]; rfl, ov, [], C3, by rw [Hres.out.1, List.append_nil]; exact H3.out.1, (WStep.of_below H1.out.1).trans H3.out.2.1, by simp, fun h => absurd (by rw [Hres.out.1] at h; exact h) Hres.out.2⟩
end Go.Proofs.YtgobcldecokppaaDoor

/- names: the walker over lists of statements. -/
namespace Go.Proofs.YtgobcldecokppaaDoor
open Go.RowKit Go.Maps

set_option maxRecDepth 100000 in
set_option maxHeartbeats 8000000 in
theorem nlist_any (l : List St) (v : Value) (w0 : World) (h : StsIn w0 l v) : NListOk w0 l v := by
  induction h with
  | mk l v va vb vd ve vc vk h ha hb hd he hc hk ihd ihe ihk =>
  intro hfi W c bk bf bc ov K G C n0 loops hB hcb hK hn0 hn1 hl0 hl1 hkl
  obtain ⟨a, cap, rfl, hncap, hcap⟩ := h.form
  obtain ⟨n, hn⟩ : ∃ n, n = l.length := ⟨_, rfl⟩
  have Hn := Lib.hid hn
  have Hbd := Lib.hid (And.intro hn1 (And.intro hl1 hkl))
  have Hfi := Lib.hid hfi
  have Hrow : Hid (RowOf w0 (.slice a n cap) l.length 14 (fun b o i => ∀ x, l[i]? = some x → StAt w0 b o x (va i) (vb i) (vd i) (ve i) (vc i))) := by rw [hn]; exact h
  have Hih := Lib.hid (And.intro ihd (And.intro ihe ihk))
  have Hf := Lib.hid (And.intro ha (And.intro hb (And.intro hd (And.intro he (And.intro hc hk)))))
  have HB := Lib.hid hB
  have HK := Lib.hid hK
  rw [← hn]
  rw [← hn] at hncap
  have hn62 : n ≤ 9223372036854775807 := by have : maxLen ≤ 9223372036854775807 := by decide
                                            omega
  obtain ⟨kn, hkn⟩ : ∃ kn, kn = K.length := ⟨_, rfl⟩
  obtain ⟨ao, co, hov⟩ := hK.len
  have c1 := hK.sc.c1
  rw [← hkn] at hov
  rw [hov] at c1
  have Hkn := Lib.hid (And.intro hkn hov)
  have hkn2 : kn ≤ 100000 := by omega
  have qc : c < W.heap.size := block_lt_of_cell hK.c2
  clear h ha hb hd he hc hk ihd ihe ihk hn hB hK hn1 hl1 hkl hfi hkn hov
  go_enter Tryd.func41, Tryd.ntmps41
  go_wp2_with fail
  go_loopg [17] n (fun g iv wx => ∃ (i : Nat) (ovi : Value) (Ci : List Int), g = n - i ∧ iv = .int .i64 (i : Int) ∧ i ≤ n ∧ WAt wx c bk bf bc ovi (kAfter K (l.take i)) G Ci (n0 + ((St.nchks K G loops (l.take i)).1 : Int)) loops ∧ WStep W wx c bk bc ov ovi ∧
    (St.nchks K G loops (l.take i)).2 = 0 ∧ ∀ z, z ∈ Ci ↔ z ∈ C ∨ idxs G (St.ncallss (l.take i)) z)
  case atStart => exact ⟨0, ov, C, rfl, rfl, Nat.zero_le _, HK.out.to (by simp [kAfter]) (by simp [St.nchks]) rfl, .refl _ _ _ _ _, by simp [St.nchks], by simp [St.ncallss, idxs]⟩
  case round =>
    obtain ⟨i, ovi, Ci, hg, rfl, hi, hKi, hsi, hzi, hci⟩ := hrel
    have Hg := Lib.hid hg
    have Hi := Lib.hid (And.intro hKi (And.intro hsi (And.intro hzi hci)))
    have HBi : Hid (Below w0.heap.size w0 wr) := hsi.below HK.out HB.out hcb
    have qi := hsi.oth.size
    obtain ⟨ti, hti⟩ : ∃ t, t = (St.nchks K G loops (l.take i)).1 := ⟨_, rfl⟩
    have Hti : Hid (ti ≤ St.totals (l.take i)) := by show _ ≤ _; rw [hti]; exact St.nchks_le _ _ _ _
    obtain ⟨Ki, hki⟩ : ∃ Ki, Ki = kAfter K (l.take i) := ⟨_, rfl⟩
    have HKi : Hid (∃ D, Ki = K ++ D ∧ D.length ≤ St.totals (l.take i)) := by
      obtain ⟨D, e1, e2⟩ := kAfter_le K (l.take i)
      exact ⟨D, by rw [hki, e1], Nat.le_trans e2 (St.len_totals _)⟩
    have hKlen : Ki.length ≤ K.length + St.totals (l.take i) := by
      obtain ⟨D, e1, e2⟩ := HKi.out
      rw [e1]; simp; omega
    have Hti2 := Lib.hid hti
    have Hki2 := Lib.hid hki
    have HKlen := Lib.hid hKlen
    clear hg hKi hsi hzi hci hti hki hKlen c1
    by_cases hin : i < n
    · obtain ⟨x, hx⟩ : ∃ x, l[i]? = some x := ⟨_, List.getElem?_eq_getElem (by rw [← Hn.out]; exact hin)⟩
      obtain ⟨b, off, rfl, hb, hP⟩ := Hrow.out.at (i := i) (by rw [← Hn.out]; exact hin)
      have hst := (hP x hx).later HBi.out hb
      obtain ⟨fa, fb, fd, fe, fc, fk⟩ := Hf.out
      obtain ⟨aa, ca, hva, -⟩ := (fa i x hx).form
      obtain ⟨ab, cb, hvb, -⟩ := (fb i x hx).form
      obtain ⟨ad, cd, hvd, -⟩ := (fd i x hx).form
      obtain ⟨ae, ce, hve, -⟩ := (fe i x hx).form
      obtain ⟨ac, cc, hvc, hcc1, hcc2⟩ := (fc i x hx).form
      have fa' : NExprOk w0 x.a.args (va i) := nexpr_any _ _ _ (fa i x hx)
      have fb' : NExprOk w0 x.b.args (vb i) := nexpr_any _ _ _ (fb i x hx)
      have fd' : NListOk w0 x.body (vd i) := Hih.out.1 i x hx
      have fe' : NListOk w0 x.els (ve i) := Hih.out.2.1 i x hx
      have fc' := fc i x hx
      have fk' : ∀ (j : Nat) y, x.cases[j]? = some y → StsIn w0 y.body (vk i j) ∧ NListOk w0 y.body (vk i j) := fun j y hy => ⟨fk i x j y hx hy, Hih.out.2.2 i x j y hx hy⟩
      obtain ⟨na, hna⟩ : ∃ n, n = x.a.args.length := ⟨_, rfl⟩
      obtain ⟨nb, hnb⟩ : ∃ n, n = x.b.args.length := ⟨_, rfl⟩
      obtain ⟨nd, hnd⟩ : ∃ n, n = x.body.length := ⟨_, rfl⟩
      obtain ⟨ne, hne⟩ : ∃ n, n = x.els.length := ⟨_, rfl⟩
      obtain ⟨nc, hnc⟩ : ∃ n, n = x.cases.length := ⟨_, rfl⟩
      rw [hva, hvb, hvd, hve, hvc, ← hna, ← hnb, ← hnd, ← hne, ← hnc] at hst
      rw [hva, ← hna] at fa'
      rw [hvb, ← hnb] at fb'
      rw [hvd, ← hnd] at fd'
      rw [hve, ← hne] at fe'
      rw [hvc, ← hnc] at fc'
      rw [← hnc] at hcc1
      have hnc62 : nc ≤ 9223372036854775807 := by have : maxLen ≤ 9223372036854775807 := by decide
                                                  omega
      obtain ⟨Y1, hY1⟩ : ∃ Y1, Y1 = wr.alloc (.cells #[.int .i64 x.kind, .string x.name, .int .i64 x.n, .int .i64 x.a.kind, .int .i64 x.a.n, .string x.a.name, .slice aa na ca, .int .i64 x.b.kind, .int .i64 x.b.n, .string x.b.name, .slice ab nb cb, .slice ad nd cd, .slice ae ne ce, .slice ac nc cc] 56) := ⟨_, rfl⟩
      have hbY : Below wr.heap.size wr Y1 := by rw [hY1]; exact (Below.refl _ _).alloc (Nat.le_refl _) _
      have hvY : StAt Y1 wr.heap.size 0 x (.slice aa na ca) (.slice ab nb cb) (.slice ad nd cd) (.slice ae ne ce) (.slice ac nc cc) := by rw [hY1]; exact StAt.box _ _ _ _ _ _ _ _
      have hkY := (Hi.out.1.later1 hbY).to Hki2.out.symm (by rw [← Hti2.out]) rfl
      have hsY : WStep W Y1 c bk bc ov ovi := Hi.out.2.1.trans (.of_below hbY)
      have hBY : Below w0.heap.size w0 Y1 := HBi.out.trans (hbY.mono HBi.out.size)
      have htt := St.totals_take hx
      have htl := St.totals_le (l := l) (i + 1)
      have Hcall := Lib.hid (nstmt_row x aa ab ad ae ac na nb nd ne nc ca cb cd ce cc (vk i) w0 hnc hnc62 fa' fb' fd' fe' fc' fk' (St.fines_at Hfi.out hx) Y1 c bk bf bc ovi Ki G Ci (n0 + (ti : Int)) loops hBY hcb hkY (by omega)
        (by have h1 := Hbd.out; have h4 := Hti.out; omega) hl0 (by have h1 := Hbd.out; omega) (by have h1 := Hbd.out; have h2 := HKlen.out; omega))
      have Hx := Lib.hid (And.intro hx hsY)
      have HY1 := Lib.hid hY1
      have HvY := Lib.hid hvY
      obtain ⟨i0, i1, i2, i3, i4, i5, i6, i7, i8, i9, i10, i11, i12, i13⟩ := hst
      clear hP hx fa fb fd fe fc fk fa' fb' fd' fe' fc' fk' hna hnb hnd hne hnc hva hvb hvd hve hvc hcc1 hY1 hbY hvY hkY hsY hBY htt htl
      go_upto_region 5 with (fail)
      rw [← HY1.out]
      obtain ⟨j0, j1, j2, j3, j4, j5, j6, j7, j8, j9, j10, j11, j12, j13⟩ := HvY.out
      simp only [Nat.zero_add] at j1 j2 j3 j4 j5 j6 j7 j8 j9 j10 j11 j12 j13
      clear i0 i1 i2 i3 i4 i5 i6 i7 i8 i9 i10 i11 i12 i13
      go_wp2_with fail
      refine Hcall.out.mono ?_
      rintro e w5 ⟨rfl, ov5, D5, C5, hK5, hs5, hD5, hC5⟩
      obtain ⟨p, hp⟩ : ∃ p, p = x.nchk Ki G loops := ⟨_, rfl⟩
      rw [← hp] at hK5 hC5
      rw [← hp]
      have Hp := Lib.hid hp
      have H5 := Lib.hid (And.intro hK5 (And.intro (Hx.out.2.trans hs5) (And.intro hD5 hC5)))
      clear hp hK5 hs5 hD5 hC5 j0 j1 j2 j3 j4 j5 j6 j7 j8 j9 j10 j11 j12 j13 Hcall
      by_cases hpz : p.2 = 0
      · have hq : (p.2 != 0) = false := by simp [hpz]
        have Hpz := Lib.hid hpz
        clear hpz
        go_wp2_with fail
        go_roundg (n - (i + 1))
        case measure => have := Hg.out; omega
        case rel =>
          have hnx := St.nchks_next (K := K) (G := G) (loops := loops) Hx.out.1
          rw [after_ok Hi.out.2.2.1, ← Hki2.out, ← Hp.out, ← Hti2.out] at hnx
          obtain ⟨e1, e2⟩ := H5.out.2.2.2 Hpz.out
          refine ⟨i + 1, ov5, C5, rfl, by go_num, by omega, H5.out.1.to (by rw [e1, kAfter_take Hx.out.1, Hki2.out]) (by rw [hnx]; simp only; omega) rfl, H5.out.2.1, by rw [hnx]; exact Hpz.out, fun z => ?_⟩
          rw [e2 z, Hi.out.2.2.2 z, St.ncallss_take Hx.out.1, idxs_append, or_assoc]
      · have hq : (p.2 != 0) = true := by simp [hpz]
        have Hfin : Hid (St.nchks K G loops l = (ti + p.1, p.2) ∧ p.2 ≠ 0) := by
          refine ⟨?_, hpz⟩
          have hh := St.nchks_hit (K := K) (G := G) (loops := loops) Hx.out.1 Hi.out.2.2.1 (by rw [← Hki2.out, ← Hp.out]; exact hpz)
          rw [← Hki2.out, ← Hp.out, ← Hti2.out] at hh
          exact hh
        clear hpz
        go_wp2_with fail
        go_ret
        obtain ⟨Di, e1, e2⟩ := HKi.out
        refine ⟨by rw [Hfin.out.1]; rfl, ov5, Di ++ D5, C5, H5.out.1.to (by rw [← List.append_assoc, e1]) (by rw [Hfin.out.1]; simp only; omega) rfl, H5.out.2.1, ?_, fun h => absurd (by rw [Hfin.out.1] at h; exact h) Hfin.out.2⟩
        have h1 := H5.out.2.2.1
        have h4 := St.totals_take Hx.out.1
        have h5 := St.totals_le (l := l) (i + 1)
        simp
        omega
    · obtain rfl : n = i := by omega
      have htk : l.take n = l := List.take_of_length_le (by rw [← Hn.out]; exact Nat.le_refl _)
      have hk := Hi.out.1.to Hki2.out.symm (by rw [← Hti2.out]) rfl
      have Hfg := Lib.hid (forget_any c bk ovi Ki kn wr hk.sc (by obtain ⟨D, e1, e2⟩ := HKi.out; rw [Hkn.out.1, e1]; simp) (by
        have h1 := Hbd.out
        have h2 := HKlen.out
        rw [htk] at h2
        omega))
      have Hk := Lib.hid hk
      have Htk := Lib.hid htk
      clear hk htk hin
      go_wp2_with fail
      refine Hfg.out.mono ?_
      rintro e w8 ⟨rfl, ov8, hs8, hO8, hN8, hKp8⟩
      have hk8 := (Hk.out.scope hs8 hO8 hKp8).to (K' := K) (by obtain ⟨D, e1, e2⟩ := HKi.out; rw [Hkn.out.1, e1, List.take_left']; rfl) rfl rfl
      have H8 := Lib.hid (And.intro hk8 (Hi.out.2.1.trans (.of_scope hO8 hN8)))
      clear hs8 hO8 hN8 hKp8 hk8 Hfg
      go_wp2_with fail
      go_ret
      have hj0 := Hi.out
      have ht0 := Hti2.out
      rw [Htk.out] at hj0 ht0
      have hz0 : (St.nchks K G loops l).2 = 0 := hj0.2.2.1
      refine ⟨by rw [hz0]; rfl, ov8, [], Ci, H8.out.1.to (by rw [List.append_nil]) (by rw [ht0]) rfl, H8.out.2, by simp, fun h => ⟨by rw [List.append_nil], hj0.2.2.2⟩⟩
end Go.Proofs.YtgobcldecokppaaDoor

namespace Go.Proofs.YtgobcldecokppaaDoor
open Go.RowKit Go.Maps

theorem Fn.faults_all {l : List Fn} {k : Nat} (h : (Fn.faults l k).1 = 0) : ∀ (i : Nat) x, l[i]? = some x → (x.fault (k + i)).1 = 0 := by
  induction l generalizing k with
  | nil => intro i x hx; simp at hx
  | cons y l ih =>
    simp only [Fn.faults] at h
    by_cases h0 : (y.fault k).1 = 0
    · rw [if_neg (by rw [h0]; decide)] at h
      intro i x hx
      cases i with
      | zero => simp at hx; subst hx; exact h0
      | succ i => rw [Nat.add_comm i 1, ← Nat.add_assoc]; exact ih h i x (by simpa using hx)
    · rw [if_pos h0] at h; exact absurd h h0
theorem size_of_nameB {s : ByteArray} (h : nameB s = true) : s.size ≤ 16 := by
  unfold nameB at h
  simp only [Bool.and_eq_true, decide_eq_true_eq] at h
  exact h.1.1.1.1
theorem Pm.errs_all {l : List Pm} (h : Pm.errs l = 0) : ∀ x ∈ l, x.err = 0 := by
  induction l with
  | nil => intro x hx; cases hx
  | cons y l ih =>
    simp only [Pm.errs] at h
    by_cases h0 : y.err = 0
    · rw [if_neg (by rw [h0]; decide)] at h
      intro x hx
      rcases List.mem_cons.1 hx with rfl | hx
      · exact h0
      · exact ih h x hx
    · rw [if_pos h0] at h; exact absurd h h0
/-- A function whose form is right. -/
structure Fn.Good (f : Fn) : Prop where
  name : f.name.size ≤ 16
  few : f.params.length ≤ 8
  params : ∀ y ∈ f.params, y.name.size ≤ 16
  body : St.fines f.body
  total : St.totals f.body ≤ 4096
theorem Pg.good {p : Pg} (h : p.fault.1 = 0) : p.funcs.length ≤ 32 ∧ ∀ (i : Nat) f, p.funcs[i]? = some f → f.Good := by
  unfold Pg.fault at h
  by_cases h0 : p.headErr = 0
  · rw [if_neg (by rw [h0]; decide)] at h
    obtain ⟨h1, h2⟩ := Pg.head_ok h0
    refine ⟨h1, fun i f hf => ?_⟩
    have h3 := Fn.faults_all h i f hf
    unfold Fn.fault at h3
    by_cases hf0 : f.face = 0
    · rw [if_neg (by rw [hf0]; decide)] at h3
      by_cases hc : (St.chks f.body 1).2 = 0
      · unfold Fn.face at hf0
        split at hf0
        · omega
        rename_i hn
        split at hf0
        · omega
        rename_i h8
        refine ⟨size_of_nameB (by simpa using hn), by omega, fun y hy => ?_, St.fines_of_chks _ _ hc, ?_⟩
        · have h4 := Pm.errs_all hf0 y hy
          unfold Pm.err at h4
          split at h4
          · omega
          rename_i h5
          exact size_of_nameB (by simpa using h5)
        · have h4 := Fn.count_take hf
          have h5 := Fn.count_le (l := p.funcs) (i + 1)
          omega
      · rw [if_pos hc] at h3; exact absurd h3 hc
    · rw [if_pos hf0] at h3; exact absurd h3 hf0
  · rw [if_pos h0] at h; exact absurd h h0
/-- The names of the functions ahead. -/
def gAt (l : List Fn) (i : Nat) : List ByteArray := (l.take i).map (·.name)
theorem gAt_next {l : List Fn} {i : Nat} {x : Fn} (h : l[i]? = some x) : gAt l (i + 1) = gAt l i ++ [x.name] := by unfold gAt; rw [take_next h]; simp
theorem gAt_len (l : List Fn) (i : Nat) : (gAt l i).length ≤ l.length := by unfold gAt; simp; omega
theorem gAt_at {l : List Fn} {i j : Nat} {x : Fn} (h : l[j]? = some x) (hj : j < i) : (gAt l i)[j]? = some x.name := by unfold gAt; simp [hj, h]
theorem Fn.nfaults_hit {l : List Fn} {G : List ByteArray} {i k : Nat} {x : Fn} (h : l[i]? = some x) (hn : ∀ j y, j < i → l[j]? = some y → (y.nfault (G ++ gAt l j) (k + j)).1 = 0) (he : (x.nfault (G ++ gAt l i) (k + i)).1 ≠ 0) : Fn.nfaults l G k = x.nfault (G ++ gAt l i) (k + i) := by
  induction l generalizing i k G with
  | nil => simp at h
  | cons y l ih =>
    cases i with
    | zero => simp at h; subst h; simp only [Fn.nfaults, gAt, List.take_zero, List.map_nil, List.append_nil, Nat.add_zero] at he ⊢; exact if_pos he
    | succ i =>
      have h0 := hn 0 y (by omega) rfl
      simp only [gAt, List.take_zero, List.map_nil, List.append_nil, Nat.add_zero] at h0
      simp only [Fn.nfaults]
      rw [if_neg (by rw [h0]; decide)]
      have e : ∀ j, G ++ gAt (y :: l) (j + 1) = G ++ [y.name] ++ gAt l j := fun j => by unfold gAt; simp
      have := ih (i := i) (k := k + 1) (G := G ++ [y.name]) (by simpa using h) (fun j z hj hz => by rw [← e, Nat.add_assoc, Nat.add_comm 1 j]; exact hn (j + 1) z (by omega) (by simpa using hz)) (by rw [← e, Nat.add_assoc, Nat.add_comm 1 i]; exact he)
      rw [this, ← e, Nat.add_assoc, Nat.add_comm 1 i]
theorem Fn.nfaults_none {l : List Fn} {G : List ByteArray} {k : Nat} (hn : ∀ (j : Nat) y, l[j]? = some y → (y.nfault (G ++ gAt l j) (k + j)).1 = 0) : Fn.nfaults l G k = (0, 0, 0) := by
  induction l generalizing k G with
  | nil => rfl
  | cons y l ih =>
    have h0 := hn 0 y rfl
    simp only [gAt, List.take_zero, List.map_nil, List.append_nil, Nat.add_zero] at h0
    simp only [Fn.nfaults]
    rw [if_neg (by rw [h0]; decide)]
    have e : ∀ j, G ++ gAt (y :: l) (j + 1) = G ++ [y.name] ++ gAt l j := fun j => by unfold gAt; simp
    exact ih fun j z hz => by rw [← e, Nat.add_assoc, Nat.add_comm 1 j]; exact hn (j + 1) z (by simpa using hz)
theorem twiceB_snoc (l : List Pm) (G : List ByteArray) (x : Pm) : twiceB (l ++ [x]) G = (twiceB l G || decide (x.name ∈ G ++ l.map (·.name))) := by
  induction l generalizing G with
  | nil => simp [twiceB]
  | cons y l ih => simp only [List.cons_append, twiceB, ih, List.map_cons, List.append_assoc, Bool.or_assoc, List.nil_append]
theorem twiceB_stop {l : List Pm} {G : List ByteArray} (i : Nat) (h : twiceB (l.take i) G = true) : twiceB l G = true := by
  induction l generalizing i G with
  | nil => simp [twiceB] at h
  | cons y l ih =>
    cases i with
    | zero => simp [twiceB] at h
    | succ i =>
      simp only [List.take_succ_cons, twiceB, Bool.or_eq_true] at h ⊢
      rcases h with h | h
      · exact .inl h
      · exact .inr (ih i h)
theorem parK_take {l : List Pm} {i : Nat} {x : Pm} (h : l[i]? = some x) : parK (l.take (i + 1)) = parK (l.take i) ++ [(x.name, 1)] := by rw [take_next h]; simp [parK]
theorem parK_kind {l : List Pm} {s : ByteArray} : kindOf (parK l) s ≠ 0 ↔ s ∈ l.map (·.name) := by
  rw [Ne, kindOf_zero (fun q hq => by simp [parK] at hq; obtain ⟨a, _, rfl⟩ := hq; exact (by decide : (1 : Int) ≠ 0))]
  simp [parK]
/-- One more parameter: does its name stand ahead of it? -/
theorem twiceB_next {l : List Pm} {i : Nat} {x : Pm} (h : l[i]? = some x) (h0 : twiceB (l.take i) [] = false) : twiceB (l.take (i + 1)) [] = decide (kindOf (parK (l.take i)) x.name ≠ 0) := by
  rw [take_next h, twiceB_snoc, h0, List.nil_append, Bool.false_or]
  exact decide_eq_decide.2 parK_kind.symm
theorem Oth.new {S T : Nat → Prop} {W w w' : World} (h : Oth S W w) (k : Oth T w w') (hT : ∀ b, b < W.heap.size → T b → S b) : Oth S W w' :=
  ⟨k.os.trans h.os, k.tape.trans h.tape, k.output.trans h.output, Nat.le_trans h.size k.size, fun i hi hc => (k.block i (Nat.lt_of_lt_of_le hi h.size) (fun ht => hc (hT i hi ht))).trans (h.block i hi hc)⟩
end Go.Proofs.YtgobcldecokppaaDoor
