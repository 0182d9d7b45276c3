/- R15.Calls of the reference: the calls of a function that can be reached. -/
import Derived.Test.YtggkeodoenhmoaaDoorOf
namespace Go.Proofs.YtggkeodoenhmoaaDoor
open Go.RowKit

theorem FnAt.keep {B b k : Nat} {w w' : World} {s : ByteArray} {vp : Value} {regs words : Int} {vc : Value} (h : FnAt w k s vp regs words vc) (hk : Keep B b w w') (h1 : k < B) (h2 : k ≠ b) : FnAt w' k s vp regs words vc :=
  ⟨(hk.cell (p := ⟨k, 0, none⟩) h1 h2).trans h.c0, (hk.cell (p := ⟨k, 1, none⟩) h1 h2).trans h.c1, (hk.cell (p := ⟨k, 2, none⟩) h1 h2).trans h.c2, (hk.cell (p := ⟨k, 3, none⟩) h1 h2).trans h.c3, (hk.cell (p := ⟨k, 4, none⟩) h1 h2).trans h.c4⟩
theorem ModAt.keep {B b k : Nat} {w w' : World} {vt vf : Value} (h : ModAt w k vt vf) (hk : Keep B b w w') (h1 : k < B) (h2 : k ≠ b) : ModAt w' k vt vf := ⟨(hk.cell (p := ⟨k, 0, none⟩) h1 h2).trans h.c0, (hk.cell (p := ⟨k, 1, none⟩) h1 h2).trans h.c1⟩
/-- The list v lies in block b, or in one from B on. -/
def Lies (B b : Nat) (v : Value) : Prop := ∀ k, v.ownBlock = some k → k = b ∨ B ≤ k
theorem Lies.fresh {B b : Nat} {v v' : Value} {w : World} (h : Lies B b v) (hf : Fresh w v v') (hB : B ≤ w.heap.size) : Lies B b v' := by
  intro k hk
  by_cases hlt : k < w.heap.size
  · by_cases hv : v.ownBlock = some k
    · exact h k hv
    · exact absurd hk (hf k hlt hv)
  · exact .inr (by omega)

set_option maxRecDepth 100000 in
set_option maxHeartbeats 2000000 in
theorem rcalls_in (vt vf : Value) (F : List FR) (fn : Nat) (x : FR) (w : World) (hF : FuncsIn w vf F) (hx : F[fn]? = some x) :
    Calls Tryd.prog 17 #[modV vt vf, .int .i64 (fn : Int)] w fun e w' => ∃ v, e = .returned v ∧ OwnPr 57 w' w.heap.size v (callsL x.code F.length) ∧ Below w.heap.size w w' := by
  obtain ⟨-, af, cf, hvf, -⟩ := hF.row
  subst hvf
  obtain ⟨-, b, off, rfl, hbw, p0, p1, p2, p3, p4⟩ := hF.at hx
  have hfn : fn < F.length := (List.getElem?_eq_some_iff.1 hx).1
  have hok := hF.each x (List.mem_of_getElem? hx)
  obtain ⟨nF, hnF⟩ : ∃ nF, nF = F.length := ⟨_, rfl⟩
  have hnf := hF.nFuncs
  rw [← hnF] at hfn hnf ⊢
  clear hF hx hnF
  obtain ⟨s, vp, regs, words, vc, params, code⟩ := x
  obtain ⟨hc, hp, hlc, hlp⟩ := hok
  simp only at *
  have hp0 := hp
  have hc0 := hc
  obtain ⟨-, ap, cp, rfl, -⟩ := hp0
  obtain ⟨-, ac, cc, rfl, -⟩ := hc0
  obtain ⟨np, hnp⟩ : ∃ np, np = params.length := ⟨_, rfl⟩
  obtain ⟨nc, hnc⟩ : ∃ nc, nc = code.length := ⟨_, rfl⟩
  rw [← hnp] at p1
  rw [← hnc] at p4
  obtain ⟨W0, hW0⟩ : ∃ W0, W0 = (w.alloc (.cells #[vt, .slice (some ⟨b, off, none⟩) nF cf] 25)).alloc (.cells #[] 57) := ⟨_, rfl⟩
  obtain ⟨W1, hW1⟩ : ∃ W1, W1 = W0.alloc (.cells #[.string s, .slice ap np cp, .int .i64 regs, .int .i64 words, .slice ac nc cc] 42) := ⟨_, rfl⟩
  have hs0 : W0.heap.size = w.heap.size + 2 := by rw [hW0]; simp
  have hb0 : Below w.heap.size w W0 := by rw [hW0]; exact ((Below.refl _ _).alloc (Nat.le_refl _) _).alloc (by (try simp only [World.size_alloc]); (try simp only [size_set]); omega) _
  have hm0 : ModAt W0 w.heap.size vt (.slice (some ⟨b, off, none⟩) nF cf) := by rw [hW0]; exact (ModAt.box w vt _ _).later ((Below.refl (w.heap.size + 1) _).alloc (by (try simp only [World.size_alloc]); (try simp only [size_set]); omega) _) (Nat.lt_succ_self _)
  have ho0 : OwnPr 57 W0 (w.heap.size + 1) (.slice (some ⟨w.heap.size + 1, 0, none⟩) 0 0) [] := by
    rw [hW0]
    have := owns_empty (w.alloc (.cells #[vt, .slice (some ⟨b, off, none⟩) nF cf] 25)) (B := w.heap.size + 1) 57 2 (by simp)
    simpa [OwnPr, prVs] using this
  have hb1 : Below w.heap.size w W1 := by rw [hW1]; exact hb0.alloc (by omega) _
  have hm1 : ModAt W1 w.heap.size vt (.slice (some ⟨b, off, none⟩) nF cf) := by rw [hW1]; exact hm0.later ((Below.refl W0.heap.size _).alloc (by omega) _) (by omega)
  have ho1 : OwnPr 57 W1 (w.heap.size + 1) (.slice (some ⟨w.heap.size + 1, 0, none⟩) 0 0) [] := by rw [hW1]; exact World.ownsRow.alloc ho0 _
  have hf1 : FnAt W1 (w.heap.size + 2) s (.slice ap np cp) regs words (.slice ac nc cc) := by
    rw [hW1]
    have := FnAt.box W0 s (.slice ap np cp) regs words (.slice ac nc cc) 42
    rwa [hs0] at this
  have hs1 : W1.heap.size = w.heap.size + 3 := by rw [hW1]; simp; omega
  have hc0 : CodeIn w (.slice ac nc cc) code := by rw [hnc]; exact hc
  have hc1 : CodeIn W1 (.slice ac nc cc) code := SliceIn.later hc0 hb1
  have H1 := Lib.hid (And.intro hb1 (And.intro hm1 (And.intro hf1 (And.intro hs1 (And.intro hc1 ho1)))))
  have Hc := Lib.hid hc0
  have Hlc := Lib.hid hlc
  have Hnc := Lib.hid hnc
  have HW1 : Hid (W1 = ((w.alloc (.cells #[vt, .slice (some ⟨b, off, none⟩) nF cf] 25)).alloc (.cells #[] 57)).alloc (.cells #[.string s, .slice ap np cp, .int .i64 regs, .int .i64 words, .slice ac nc cc] 42)) := by show _ = _; rw [hW1, hW0]
  clear hb1 hm1 hf1 hs1 hc1 hc0 hc hp hnp hnc hW1 hlc hlp ho1 ho0 hm0 hb0 hs0 hW0
  go_enter Tryd.func17, Tryd.ntmps17
  go_wp2_with fail
  rw [← HW1.out]
  refine (rreach_any s _ regs words _ code _ Hlc.out H1.out.2.2.2.2.1).mono ?_
  rintro e w2 ⟨v2, rfl, hcan, hb2⟩
  obtain ⟨hb1, hm1, hf1, hs1, hc1, ho1⟩ := H1.out
  have hcl : (reachL code (-1)).length ≤ nc := by rw [Hnc.out]; exact reachL_le
  have hcs : (reachL code (-1)).length ≤ 1024 := reachL_small
  have hcn : nc * 40 ≤ 140737488351232 := by rw [Hnc.out]; exact Hlc.out
  obtain ⟨can, hcaneq⟩ : ∃ can, can = reachL code (-1) := ⟨_, rfl⟩
  have hfin : callsTo code can nF can.length = callsL code nF := by rw [hcaneq]; rfl
  rw [← hcaneq] at hcl hcs hcan
  have hsl := SliceIn.of_owns hcan
  obtain ⟨-, a8, c8, rfl, -⟩ := hsl
  obtain ⟨n, hn⟩ : ∃ n, n = can.length := ⟨_, rfl⟩
  have hcan' : OwnBools w2 (w.heap.size + 3) (.slice a8 n c8) can := by rw [hn, ← hs1]; exact hcan
  rw [← hn] at hcl hcs hfin ⊢
  have H2 : Hid (Below w.heap.size w w2 ∧ ModAt w2 w.heap.size vt (.slice (some ⟨b, off, none⟩) nF cf) ∧ FnAt w2 (w.heap.size + 2) s (.slice ap np cp) regs words (.slice ac nc cc) ∧ w.heap.size + 3 ≤ w2.heap.size ∧ OwnBools w2 (w.heap.size + 3) (.slice a8 n c8) can ∧
      OwnPr 57 w2 (w.heap.size + 1) (.slice (some ⟨w.heap.size + 1, 0, none⟩) 0 0) []) :=
    ⟨hb1.trans (hb2.mono (by omega)), hm1.later hb2 (by omega), hf1.later hb2 (by omega), by have := hb2.size; omega, hcan', ownsRow_below ho1 hb2 (by omega)⟩
  have Hn := Lib.hid hn
  have Hfin := Lib.hid hfin
  clear hb1 hm1 hf1 hs1 hc1 hcan hcan' hcaneq hn hfin hb2 ho1 H1 HW1 p0 p1 p2 p3 p4
  go_wp2_with fail
  go_loopw [5, 8] (fun v i wr => ∃ k : Nat, k ≤ n ∧ i = .int .i64 k ∧ OwnPr 57 wr (w.heap.size + 1) v (callsTo code can nF k) ∧ Lies w2.heap.size (w.heap.size + 1) v ∧ Keep w2.heap.size (w.heap.size + 1) w2 wr) (fun _ i _ => n - (intOf i).toNat)
  case atStart => exact ⟨0, Nat.zero_le _, rfl, H2.out.2.2.2.2.2, fun k hk => .inl (by simpa [Value.ownBlock] using hk.symm), Keep.refl _ _ _⟩
  case round =>
    obtain ⟨k, hk, rfl, ho, hlies, hkp⟩ := hrel
    have hs2 := H2.out.2.2.2.1
    have hbw2 : Below w.heap.size w wr := H2.out.1.trans (hkp.below (by omega) (by omega))
    have hsz := hkp.size
    by_cases hkn : k < n
    · have hkc : k < nc := by omega
      have hcan := hkp.row H2.out.2.2.2.2.1 (Nat.le_refl _) (by omega)
      have hcan' : BoolsIn wr (.slice a8 n c8) can := by have := SliceIn.of_owns hcan; rw [← Hn.out] at this; unfold BoolsIn; rw [← Hn.out]; exact this
      obtain ⟨b8, o8, rfl, hb8, c8k⟩ := BoolsIn.cell hcan' (k := k) (by rw [← Hn.out]; exact hkn)
      obtain ⟨f0, f1, f2, f3, f4⟩ := H2.out.2.2.1.keep hkp (by omega) (by omega)
      obtain ⟨m0, m1⟩ := H2.out.2.1.keep hkp (by omega) (by omega)
      have hlt0 : w.heap.size < wr.heap.size := by omega
      have hlt2 : w.heap.size + 2 < wr.heap.size := by omega
      obtain ⟨y, hy⟩ : ∃ y, code[k]? = some y := ⟨code[k]'(by rw [← Hnc.out]; exact hkc), List.getElem?_eq_getElem _⟩
      have hyd : code.getD k default = y := by simp [List.getD, hy]
      have hcr := SliceIn.later Hc.out hbw2
      obtain ⟨bc, oc, hac, hbc⟩ : ∃ bc oc, ac = some ⟨bc, oc, none⟩ ∧ bc < wr.heap.size := by
        obtain ⟨_, a', cap', hv, _, _, _, hc⟩ := hcr
        cases hv
        obtain ⟨bc, oc, h1, h2, _⟩ := hc (by rw [← Hnc.out]; omega)
        exact ⟨bc, oc, h1, h2⟩
      subst hac
      obtain ⟨q0, q1, q2, q3, q4⟩ := CodeIn.at hcr rfl hy
      obtain ⟨op, ya, yb, yc, yn⟩ := y
      simp only at q0 q1 q2 q3 q4
      have hstep0 := fun h => @callsTo_no code can nF k h
      have hstep1 := fun h h2 => @callsTo_yes code can nF k h h2
      rw [hyd] at hstep0 hstep1
      have hlen0 := callsTo_len code can nF k
      have Hs0 := Lib.hid hstep0
      have Hs1 := Lib.hid hstep1
      have Ho := Lib.hid (And.intro ho hlies)
      have Hk := Lib.hid hkp
      have Hl0 := Lib.hid hlen0
      clear hstep0 hstep1 ho hlies hkp hlen0 hcr hy hyd hcan hcan' hbw2
      generalize can.getD k false = ck at *
      by_cases hA : ck = true ∧ op = 19 ∧ 0 ≤ yn ∧ yn < nF
      · obtain ⟨rfl, rfl, hA1, hA2⟩ := hA
        have Hy : Hid (callsTo code can nF (k + 1) = callsTo code can nF k ++ [((k : Int), yn)]) := Hs1.out rfl (by simp [isCall]; exact ⟨hA1, hA2⟩)
        have Hown : Hid (OwnPr 57 (wr.alloc (.cells #[.int .i64 19, .int .i64 ya, .int .i64 yb, .int .i64 yc, .int .i64 yn] 44)) (w.heap.size + 1) u5 (callsTo code can nF k)) := World.ownsRow.alloc Ho.out.1 _
        have Hll : Hid ((callsTo code can nF k).length ≤ 1000000000000) := Nat.le_trans Hl0.out (by omega)
        have HkA : Hid (Keep w2.heap.size (w.heap.size + 1) w2 (wr.alloc (.cells #[.int .i64 19, .int .i64 ya, .int .i64 yb, .int .i64 yc, .int .i64 yn] 44))) := Hk.out.alloc hsz _
        clear Hs0 Hs1
        go_wp2_with (at_builtin; (refine append_pr_at 57 54 rfl _ _ rfl Tryd.underlying54 Tryd.infoCall (w.heap.size + 1) _ _ rfl Hown.out (k : Int) yn (wr.heap.size + 1) rfl (by simp) Hll.out (by simp; omega) ?_))
        intro v' w' hown' hgr hfr hbb
        have hlies' : Lies w2.heap.size (w.heap.size + 1) v' := Ho.out.2.fresh hfr (by simp; omega)
        have hk' : Keep w2.heap.size (w.heap.size + 1) w2 w' := (HkA.out.alloc (by simp; omega) _).grown hgr (by simp; omega) (fun k e => (Ho.out.2 k e).symm)
        have H' := Lib.hid (And.intro hown' (And.intro hlies' hk'))
        clear hown' hgr hfr hbb hlies' hk'
        go_wp2_with fail
        go_roundw
        case rel =>
          refine ⟨k + 1, by omega, by go_num, ?_, H'.out.2.1, H'.out.2.2⟩
          rw [Hy.out]
          exact H'.out.1
        case measure => simp [intOf]; omega
      · have hA4 : ck = false ∨ (ck = true ∧ (op == 19) = false) ∨ (ck = true ∧ op = 19 ∧ yn < 0) ∨ (ck = true ∧ op = 19 ∧ 0 ≤ yn ∧ (nF : Int) ≤ yn) := by
          cases ck
          · exact .inl rfl
          · by_cases h19 : op = 19
            · by_cases h0 : 0 ≤ yn
              · exact .inr (.inr (.inr ⟨rfl, h19, h0, Int.not_lt.1 (fun h => hA ⟨rfl, h19, h0, h⟩)⟩))
              · exact .inr (.inr (.inl ⟨rfl, h19, by omega⟩))
            · exact .inr (.inl ⟨rfl, beq_eq_false_iff_ne.2 h19⟩)
        have Hn0 : Hid (callsTo code can nF (k + 1) = callsTo code can nF k) := Hs0.out (fun h => hA ⟨h.1, of_decide_eq_true h.2⟩)
        clear Hs0 Hs1 hA
        rcases hA4 with rfl | ⟨rfl, h19⟩ | ⟨rfl, rfl, h5⟩ | ⟨rfl, rfl, h5, h6⟩
        all_goals
          go_wp2_with fail
          go_roundw
          case rel =>
            refine ⟨k + 1, by omega, by go_num, ?_, Ho.out.2, Hk.out.alloc hsz _⟩
            rw [Hn0.out]
            exact World.ownsRow.alloc Ho.out.1 _
          case measure => simp [intOf]; omega
    · have ek : k = n := by omega
      subst ek
      have Ho := Lib.hid ho
      have Hb := Lib.hid hbw2
      clear ho hkp hbw2 hlies
      go_wp2_with fail
      go_ret
      refine ⟨_, rfl, ?_, Hb.out⟩
      rw [← Hfin.out]
      exact ownsRow_mono Ho.out (by omega)

set_option maxHeartbeats 1000000 in
theorem rcalls_out (vt vf : Value) (F : List FR) (fn : Int) (w : World) (hF : FuncsIn w vf F) (hfn : fn < 0 ∨ (F.length : Int) ≤ fn) :
    Calls Tryd.prog 17 #[modV vt vf, .int .i64 fn] w fun e w' => ∃ v, e = .returned v ∧ OwnPr 57 w' w.heap.size v [] ∧ Below w.heap.size w w' := by
  obtain ⟨-, af, cf, hvf, -⟩ := hF.row
  subst hvf
  obtain ⟨nF, hnF⟩ : ∃ nF, nF = F.length := ⟨_, rfl⟩
  have hnf := hF.nFuncs
  rw [← hnF] at hfn hnf ⊢
  clear hF hnF
  have hA : fn < 0 ∨ (0 ≤ fn ∧ (nF : Int) ≤ fn) := by omega
  clear hfn
  rcases hA with h1 | ⟨h1, h2⟩
  all_goals
    go_enter Tryd.func17, Tryd.ntmps17
    go_wp2_with fail
    go_ret
    refine ⟨_, rfl, ?_, ((Below.refl _ _).alloc (Nat.le_refl _) _).alloc (by (try simp only [World.size_alloc]); (try simp only [size_set]); omega) _⟩
    have := owns_empty (w.alloc (.cells #[vt, .slice af nF cf] 25)) (B := w.heap.size) 57 2 (by simp)
    simpa [OwnPr, prVs] using this

set_option maxHeartbeats 1000000 in
theorem of_any (vt vf : Value) (F : List FR) (fn : Int) (w : World) (hF : FuncsIn w vf F) (hw : WordsIn w) :
    Calls Tryd.prog 7 #[modV vt vf, .int .i64 fn] w (RetInts (ofFn F fn) w) := by
  by_cases hin : 0 ≤ fn ∧ fn < (F.length : Int)
  · obtain ⟨k, rfl⟩ := Int.eq_ofNat_of_zero_le hin.1
    have hx : F[k]? = some (F[k]'(by omega)) := List.getElem?_eq_getElem _
    rw [ofFn_at hx]
    exact of_in vt vf F k _ w hF hx hw
  · have e : ofFn F fn = [] := by
      unfold ofFn
      split
      · rename_i h0
        rw [List.getElem?_eq_none (by omega)]
      · rfl
    rw [e]
    obtain ⟨-, af, cf, hvf, -⟩ := hF.row
    subst hvf
    obtain ⟨nF, hnF⟩ : ∃ nF, nF = F.length := ⟨_, rfl⟩
    have hnf := hF.nFuncs
    rw [← hnF] at hin hnf ⊢
    clear hF hnF hw e
    have hA : fn < 0 ∨ (0 ≤ fn ∧ (nF : Int) ≤ fn) := by omega
    clear hin
    rcases hA with h1 | ⟨h1, h2⟩
    all_goals
      go_enter Tryd.func7, Tryd.ntmps7
      go_wp2_with fail
      go_ret
      exact ⟨_, rfl, World.ownsRow_nil _ _ _ _, (Below.refl _ _).alloc (Nat.le_refl _) _⟩
end Go.Proofs.YtggkeodoenhmoaaDoor
