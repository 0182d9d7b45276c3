/- calls.called: the calls of a function that can be reached. -/
import Derived.Test.YtggkeodoenhmoaaDoorMod
namespace Go.Proofs.YtggkeodoenhmoaaDoor
open Go.RowKit

theorem reachL_small {code : List Ins} {gone : Int} : (reachL code gone).length ≤ 1024 := by
  rw [reachL_length]
  split
  · rename_i h
    have : 0 < code.length ∧ code.length ≤ 1024 := by simpa [hasB] using h
    exact this.2
  · omega
theorem reachL_le {code : List Ins} {gone : Int} : (reachL code gone).length ≤ code.length := by
  rw [reachL_length]; split <;> omega

set_option maxRecDepth 100000 in
set_option maxHeartbeats 2000000 in
theorem called_any (vt vf : Value) (F : List FR) (fn : Nat) (x : FR) (w : World) (hF : FuncsIn w vf F) (hx : F[fn]? = some x) (hw : WordsIn w) :
    Calls Tryd.prog 15 #[modV vt vf, .int .i64 (fn : Int)] w fun e w' => ∃ v, e = .returned v ∧ OwnPr 50 w' w.heap.size v (callsL x.code F.length) ∧ Below w.heap.size w w' := by
  obtain ⟨-, af, cf, hvf, -⟩ := hF.row
  subst hvf
  obtain ⟨-, b, off, rfl, hbw, p0, p1, p2, p3, p4⟩ := hF.at hx
  have hfn : fn < F.length := (List.getElem?_eq_some_iff.1 hx).1
  have hok := hF.each x (List.mem_of_getElem? hx)
  obtain ⟨nF, hnF⟩ : ∃ nF, nF = F.length := ⟨_, rfl⟩
  have hnf := hF.nFuncs
  rw [← hnF] at hfn hnf ⊢
  clear hF hx hnF
  obtain ⟨s, vp, regs, words, vc, params, code⟩ := x
  obtain ⟨hc, hp, hlc, hlp⟩ := hok
  simp only at *
  have hp0 := hp
  have hc0 := hc
  obtain ⟨-, ap, cp, rfl, -⟩ := hp0
  obtain ⟨-, ac, cc, rfl, -⟩ := hc0
  obtain ⟨np, hnp⟩ : ∃ np, np = params.length := ⟨_, rfl⟩
  obtain ⟨nc, hnc⟩ : ∃ nc, nc = code.length := ⟨_, rfl⟩
  rw [← hnp] at p1
  rw [← hnc] at p4
  obtain ⟨W1, hW1⟩ : ∃ W1, W1 = (w.alloc (.cells #[vt, .slice (some ⟨b, off, none⟩) nF cf] 25)).alloc (.cells #[.string s, .slice ap np cp, .int .i64 regs, .int .i64 words, .slice ac nc cc] 42) := ⟨_, rfl⟩
  have hb1 : Below w.heap.size w W1 := by rw [hW1]; exact ((Below.refl _ _).alloc (Nat.le_refl _) _).alloc (by (try simp only [World.size_alloc]); (try simp only [size_set]); omega) _
  have hm1 : ModAt W1 w.heap.size vt (.slice (some ⟨b, off, none⟩) nF cf) := by rw [hW1]; exact (ModAt.box w vt _ _).later ((Below.refl (w.heap.size + 1) _).alloc (by (try simp only [World.size_alloc]); (try simp only [size_set]); omega) _) (Nat.lt_succ_self _)
  have hf1 : FnAt W1 (w.heap.size + 1) s (.slice ap np cp) regs words (.slice ac nc cc) := by
    rw [hW1]
    have := FnAt.box (w.alloc (.cells #[vt, .slice (some ⟨b, off, none⟩) nF cf] 25)) s (.slice ap np cp) regs words (.slice ac nc cc) 42
    simpa using this
  have hs1 : W1.heap.size = w.heap.size + 2 := by rw [hW1]; simp
  have hc1 : CodeIn W1 (.slice ac nc cc) code := by rw [hnc]; exact SliceIn.later hc hb1
  have H1 := Lib.hid (And.intro hb1 (And.intro hm1 (And.intro hf1 (And.intro hs1 (And.intro hc1 (hw.next hb1))))))
  have Hlc := Lib.hid hlc
  have Hnc := Lib.hid hnc
  have HW1 := Lib.hid hW1
  clear hb1 hm1 hf1 hs1 hc1 hc hp hw hnp hnc hW1 hlc hlp
  go_enter Tryd.func15, Tryd.ntmps15
  go_wp2_with fail
  rw [← HW1.out]
  refine (reach_any s _ regs words _ code _ Hlc.out H1.out.2.2.2.2.1).mono ?_
  rintro e w2 ⟨v2, rfl, hcan, hb2⟩
  obtain ⟨hb1, hm1, hf1, hs1, hc1, hw1⟩ := H1.out
  have hcl : (reachL code (-1)).length ≤ nc := by rw [Hnc.out]; exact reachL_le
  have hcs : (reachL code (-1)).length ≤ 1024 := reachL_small
  have hcn : nc * 40 ≤ 140737488351232 := by rw [Hnc.out]; exact Hlc.out
  obtain ⟨can, hcaneq⟩ : ∃ can, can = reachL code (-1) := ⟨_, rfl⟩
  have hfin : callsTo code can nF can.length = callsL code nF := by rw [hcaneq]; rfl
  rw [← hcaneq] at hcl hcs hcan
  have hsl := SliceIn.of_owns hcan
  obtain ⟨-, a8, c8, rfl, -⟩ := hsl
  obtain ⟨n, hn⟩ : ∃ n, n = can.length := ⟨_, rfl⟩
  have hsl : BoolsIn w2 (.slice a8 n c8) can := by rw [hn]; exact SliceIn.of_owns hcan
  rw [← hn] at hcl hcs hfin ⊢
  have H2 : Hid (Below w.heap.size w w2 ∧ ModAt w2 w.heap.size vt (.slice (some ⟨b, off, none⟩) nF cf) ∧ FnAt w2 (w.heap.size + 1) s (.slice ap np cp) regs words (.slice ac nc cc) ∧ w.heap.size + 2 ≤ w2.heap.size ∧ CodeIn w2 (.slice ac nc cc) code ∧ WordsIn w2 ∧ BoolsIn w2 (.slice a8 n c8) can) :=
    ⟨hb1.trans (hb2.mono (by omega)), hm1.later hb2 (by omega), hf1.later hb2 (by omega), by have := hb2.size; omega, SliceIn.later hc1 hb2, hw1.next hb2, hsl⟩
  have Hn := Lib.hid hn
  have Hfin := Lib.hid hfin
  clear hb1 hm1 hf1 hs1 hc1 hw1 hsl hcan hcaneq hn hfin hb2 H1 HW1 p0 p1 p2 p3 p4
  go_wp2_with fail
  go_loopw [6, 18] (fun v i wr => ∃ k : Nat, k ≤ n ∧ i = .int .i64 k ∧ OwnPr 50 wr w2.heap.size v (callsTo code can nF k) ∧ Below w2.heap.size w2 wr) (fun _ i _ => n - (intOf i).toNat)
  case atStart => exact ⟨0, Nat.zero_le _, rfl, World.ownsRow_nil _ _ _ _, Below.refl _ _⟩
  case round =>
    obtain ⟨k, hk, rfl, ho, hb⟩ := hrel
    by_cases hkn : k < n
    · have hkc : k < nc := by omega
      obtain ⟨b8, o8, rfl, hb8, c8k⟩ := BoolsIn.cell H2.out.2.2.2.2.2.2 (k := k) (by rw [← Hn.out]; exact hkn)
      replace c8k := (hb.cell (p := ⟨b8, o8 + k, none⟩) hb8).trans c8k
      obtain ⟨f0, f1, f2, f3, f4⟩ := H2.out.2.2.1.later hb (by have := H2.out.2.2.2.1; omega)
      obtain ⟨m0, m1⟩ := H2.out.2.1.later hb (by have := H2.out.2.2.2.1; omega)
      have hlt0 : w.heap.size < wr.heap.size := by have := H2.out.2.2.2.1; have := hb.size; omega
      obtain ⟨y, hy⟩ : ∃ y, code[k]? = some y := ⟨code[k]'(by rw [← Hnc.out]; exact hkc), List.getElem?_eq_getElem _⟩
      have hyd : code.getD k default = y := by simp [List.getD, hy]
      have hcr := SliceIn.later H2.out.2.2.2.2.1 hb
      obtain ⟨bc, oc, hac, hbc⟩ : ∃ bc oc, ac = some ⟨bc, oc, none⟩ ∧ bc < wr.heap.size := by
        obtain ⟨_, a', cap', hv, _, _, _, hc⟩ := hcr
        cases hv
        obtain ⟨bc, oc, h1, h2, _⟩ := hc (by rw [← Hnc.out]; omega)
        exact ⟨bc, oc, h1, h2⟩
      subst hac
      obtain ⟨q0, q1, q2, q3, q4⟩ := CodeIn.at hcr rfl hy
      obtain ⟨op, ya, yb, yc, yn⟩ := y
      simp only at q0 q1 q2 q3 q4
      have hwr := H2.out.2.2.2.2.2.1.next hb
      have hstep0 := fun h => @callsTo_no code can nF k h
      have hstep1 := fun h h2 => @callsTo_yes code can nF k h h2
      rw [hyd] at hstep0 hstep1
      have hlen0 := callsTo_len code can nF k
      have HW : Hid (WordsIn (wr.alloc (.cells #[.int .i64 op, .int .i64 ya, .int .i64 yb, .int .i64 yc, .int .i64 yn] 44))) := hwr.next ((Below.refl _ _).alloc (Nat.le_refl _) _)
      have Hs0 := Lib.hid hstep0
      have Hs1 := Lib.hid hstep1
      have Ho := Lib.hid ho
      have Hb := Lib.hid hb
      have Hl0 := Lib.hid hlen0
      clear hstep0 hstep1 ho hb hlen0 hcr hwr hy hyd
      generalize can.getD k false = ck at *
      cases ck
      · go_wp2_with fail
        go_roundw
        case rel =>
          refine ⟨k + 1, by omega, by go_num, ?_, (Hb.out.alloc Hb.out.size _)⟩
          rw [Hs0.out (by simp)]
          exact World.ownsRow.alloc Ho.out _
        case measure => simp [intOf]; omega
      · go_wp2_with fail
        refine (word_any op _ HW.out).mono ?_
        rintro e w3 ⟨sw, rfl, rfl, hsw⟩
        by_cases h19 : op = 19
        · have hsc : sw.toList = [99, 97, 108, 108] := hsw.2 h19
          subst h19
          by_cases hA : 0 ≤ yn ∧ yn < nF
          · obtain ⟨hA1, hA2⟩ := hA
            have Hy : Hid (callsTo code can nF (k + 1) = callsTo code can nF k ++ [((k : Int), yn)]) := Hs1.out trivial (by simp [isCall]; exact ⟨hA1, hA2⟩)
            have Hown : Hid (OwnPr 50 (wr.alloc (.cells #[.int .i64 19, .int .i64 ya, .int .i64 yb, .int .i64 yc, .int .i64 yn] 44)) w2.heap.size u6 (callsTo code can nF k)) := World.ownsRow.alloc Ho.out _
            have Hll : Hid ((callsTo code can nF k).length ≤ 1000000000000) := Nat.le_trans Hl0.out (by omega)
            have HbA : Hid (Below w2.heap.size w2 (wr.alloc (.cells #[.int .i64 19, .int .i64 ya, .int .i64 yb, .int .i64 yc, .int .i64 yn] 44))) := Hb.out.alloc Hb.out.size _
            clear Hs0 Hs1 hsw
            go_wp2_with (at_builtin; (refine append_pr_at 50 48 rfl _ _ rfl Tryd.underlying48 Tryd.infoPair w2.heap.size _ _ rfl Hown.out (k : Int) yn (wr.heap.size + 1) rfl (by simp) Hll.out HbA.out.size ?_))
            intro v' w' hown' hgr hfr hbb
            have hb' := hbb _ _ HbA.out (Nat.le_refl _)
            have Ho' := Lib.hid hown'
            have Hb' := Lib.hid hb'
            clear hown' hgr hfr hbb hb'
            go_wp2_with fail
            go_roundw
            case rel =>
              refine ⟨k + 1, by omega, by go_num, ?_, Hb'.out⟩
              rw [Hy.out]
              exact Ho'.out
            case measure => simp [intOf]; omega
          · have hA4 : yn < 0 ∨ (0 ≤ yn ∧ (nF : Int) ≤ yn) := by omega
            have Hn0 : Hid (callsTo code can nF (k + 1) = callsTo code can nF k) := Hs0.out (by simp [isCall]; omega)
            clear Hs0 Hs1 hsw hA
            rcases hA4 with h5 | ⟨h5, h6⟩
            all_goals
              go_wp2_with fail
              go_roundw
              case rel =>
                refine ⟨k + 1, by omega, by go_num, ?_, (Hb.out.alloc Hb.out.size _)⟩
                rw [Hn0.out]
                exact World.ownsRow.alloc Ho.out _
              case measure => simp [intOf]; omega
        · have hsc : ¬ sw.toList = [99, 97, 108, 108] := fun h => h19 (hsw.1 h)
          have Hn0 : Hid (callsTo code can nF (k + 1) = callsTo code can nF k) := Hs0.out (by simp [isCall]; omega)
          clear Hs0 Hs1 hsw
          go_wp2_with fail
          go_roundw
          case rel =>
            refine ⟨k + 1, by omega, by go_num, ?_, (Hb.out.alloc Hb.out.size _)⟩
            rw [Hn0.out]
            exact World.ownsRow.alloc Ho.out _
          case measure => simp [intOf]; omega
    · have ek : k = n := by omega
      subst ek
      have Ho := Lib.hid ho
      have Hb := Lib.hid hb
      clear ho hb
      go_wp2_with fail
      go_ret
      refine ⟨_, rfl, ?_, H2.out.1.trans (Hb.out.mono (by have := H2.out.2.2.2.1; omega))⟩
      rw [← Hfin.out]
      exact ownsRow_mono Ho.out (by have := H2.out.2.2.2.1; omega)
end Go.Proofs.YtggkeodoenhmoaaDoor
