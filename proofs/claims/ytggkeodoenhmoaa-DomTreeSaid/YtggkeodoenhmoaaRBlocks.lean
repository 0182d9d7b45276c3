/- R12.Blocks. -/
import Derived.Test.YtggkeodoenhmoaaRBPlain
import Derived.Test.YtggkeodoenhmoaaREdges
import Derived.Test.YtggkeodoenhmoaaTold
namespace Go.Proofs.Ytggkeodoenhmoaa
open Go.RowKit

/-- The first loop: the two lists. -/
structure RB (w2 wr : World) (vm vf : Value) (lm lf : List Int) : Prop where
  below : Below w2.heap.size w2 wr
  m : OwnInts wr w2.heap.size vm lm
  f : OwnInts wr w2.heap.size vf lf
  size : w2.heap.size + 2 ≤ wr.heap.size

theorem RB.store {w2 wr : World} {n : Nat} {lm lf : List Int} (h : RB w2 wr (.slice (some ⟨w2.heap.size, 0, none⟩) n n) (.slice (some ⟨w2.heap.size + 1, 0, none⟩) n n) lm lf) (v : Nat) (y z : Int) :
    RB w2 ((wr.setCell ⟨w2.heap.size, v, none⟩ (.int .i64 y)).drew.setCell ⟨w2.heap.size + 1, v, none⟩ (.int .i64 z)) (.slice (some ⟨w2.heap.size, 0, none⟩) n n) (.slice (some ⟨w2.heap.size + 1, 0, none⟩) n n) (lm.set v y) (lf.set v z) :=
  ⟨((h.below.setCell (Nat.le_refl _) _).drew).setCell (by show _ ≤ w2.heap.size + 1; omega) _,
    ownsRow_setCell_other (World.ownsRow.drew (OwnInts.store h.m v y)) (by simp [Value.ownBlock]) _,
    OwnInts.store (World.ownsRow.drew (ownsRow_setCell_other h.f (by simp [Value.ownBlock]) _)) v z, by rw [size_set]; show _ ≤ (World.setCell _ _ _).heap.size; rw [size_set]; exact h.size⟩

theorem take_getD (L : List Edge) (q : Nat) (hq : q < L.length) : L.take (q + 1) = L.take q ++ [L.getD q (0, 0)] := by
  rw [List.take_add_one, List.getElem?_eq_getElem hq, List.getD_eq_getElem?_getD, List.getElem?_eq_getElem hq]; rfl

set_option maxRecDepth 100000 in
set_option maxHeartbeats 2000000 in
theorem rblocks_any (s : ByteArray) (vp : Value) (regs words : Int) (vc : Value) (code : List Ins) (w : World) (hlen : code.length * 40 ≤ 140737488351232) (hc : CodeIn w vc code) :
    Calls Try.prog 24 #[fnV s vp regs words vc] w (RetInts (blocksL code) w) := by
  have Hc := Lib.hid hc
  have Hlen := Lib.hid hlen
  have hc1 : CodeIn (w.alloc (.cells #[.string s, vp, .int .i64 regs, .int .i64 words, vc] 25)) vc code := SliceIn.later hc ((Below.refl _ _).alloc (Nat.le_refl _) _)
  have Hc1 := Lib.hid hc1
  clear hc hlen hc1
  go_enter Try.func24, Try.ntmps24
  go_wp2_with fail
  refine (rreach_any s vp regs words vc code _ Hlen.out Hc1.out).mono ?_
  rintro e w1 ⟨v8, rfl, hv8, hb1⟩
  have hfn : FnAt w1 w.heap.size s vp regs words vc := (FnAt.box w s vp regs words vc _).later hb1 (by simp)
  have hbl : Below w.heap.size w w1 := ((Below.refl _ _).alloc (Nat.le_refl _) _).trans (hb1.mono (by simp))
  have hsz : w.heap.size + 1 ≤ w1.heap.size := by have := hb1.size; simpa using this
  obtain ⟨can, hcan⟩ : ∃ can, can = reachL code (-1) := ⟨_, rfl⟩
  rw [← hcan] at hv8
  have Hfn := Lib.hid hfn
  have Hbl := Lib.hid hbl
  have Hv8 : Hid (OwnBools w1 (w.heap.size + 1) v8 can) := ownsRow_mono hv8 (by simp)
  have Hcan := Lib.hid hcan
  obtain ⟨f0, f1, f2, f3, f4⟩ := Hfn.out
  clear hfn hbl hv8 hb1 hcan Hc1
  go_wp2_with fail
  refine (redges_any s vp regs words vc code _ Hlen.out (SliceIn.later Hc.out Hbl.out)).mono ?_
  rintro e w2 ⟨ve, rfl, hve, hb2⟩
  obtain ⟨a8, c8, rfl, hc8⟩ : ∃ a8 c8, v8 = .slice a8 can.length c8 ∧ (0 < can.length → ∃ g, a8 = some ⟨g, 0, none⟩) := by
    rcases Hv8.out.form with ⟨h, h2⟩ | ⟨g, c, h, _⟩
    · exact ⟨none, 0, by rw [h, h2]; rfl, by rw [h2]; simp⟩
    · exact ⟨_, _, h, fun _ => ⟨g, rfl⟩⟩
  obtain ⟨ae, ce, rfl⟩ : ∃ ae ce, ve = .slice ae (edgesL code).length ce := by
    rcases hve.form with ⟨h, h2⟩ | ⟨g, c, h, _⟩
    · exact ⟨none, 0, by rw [h, h2]; rfl⟩
    · exact ⟨_, _, h⟩
  obtain ⟨nR, hnR⟩ : ∃ nR, nR = can.length := ⟨_, rfl⟩
  obtain ⟨nE, hnE⟩ : ∃ nE, nE = (edgesL code).length := ⟨_, rfl⟩
  have hnb : nR ≤ 1024 := by
    rw [hnR, Hcan.out, reachL_length]; split
    · rename_i h; simp [hasB] at h; exact h.2
    · omega
  have hnE2 : nE ≤ 2048 := by rw [hnE]; exact edgesL_le code
  have hE2 : EdgesIn w2 (.slice ae (edgesL code).length ce) (edgesL code) := SliceIn.of_owns hve
  have hV2 : OwnBools w2 (w.heap.size + 1) (.slice a8 can.length c8) can := ownsRow_below Hv8.out hb2 (Nat.le_refl _)
  rw [← hnR] at hc8 hV2 ⊢
  rw [← hnE] at hE2 ⊢
  have HE2 := Lib.hid hE2
  have HV2 := Lib.hid hV2
  have HnR := Lib.hid hnR
  have HnE := Lib.hid hnE
  have Hfn2 := Lib.hid (Hfn.out.later hb2 (by omega))
  have Hbl2 := Lib.hid (Hbl.out.trans (hb2.mono (by omega)))
  have hsz2 : w.heap.size + 1 ≤ w2.heap.size := Nat.le_trans hsz hb2.size
  clear hE2 hV2 hnR hnE hb2 hve Hv8 Hfn Hbl f0 f1 f2 f3 f4 hsz
  have hmk := make_ints_run nR (by omega)
  go_wp2_with fail
  go_loopg [7] nE (fun g i wr => ∃ q : Nat, q ≤ nE ∧ g = nE - q ∧ i = .int .i64 q ∧ RB w2 wr (.slice (some ⟨w2.heap.size, 0, none⟩) nR nR) (.slice (some ⟨w2.heap.size + 1, 0, none⟩) nR nR) (intoAt (List.replicate nR 0) ((edgesL code).take q)) (fromAt (List.replicate nR 0) ((edgesL code).take q)))
  case atStart =>
    refine ⟨0, Nat.zero_le _, rfl, rfl, ((Below.refl _ _).alloc (Nat.le_refl _) _).alloc (by (try simp only [World.size_alloc]); (try simp only [size_set]); omega) _, ?_, ?_, by simp⟩
    · exact World.ownsRow.alloc (owns_zeroInts w2 nR (Nat.le_refl _) (by omega)) _
    · have := owns_zeroInts (w2.alloc (.cells (zeroInts nR) 3)) (B := w2.heap.size) nR (by simp) (by omega)
      rw [World.size_alloc] at this
      exact this
  case round =>
    obtain ⟨q, hq, hg, rfl, hrb⟩ := hrel
    have Hg := Lib.hid hg
    have Hrb := Lib.hid hrb
    clear hg hrb hmk
    by_cases hqn : q < nE
    · have hqE : q < (edgesL code).length := by rw [← HnE.out]; exact hqn
      obtain ⟨b, off, rfl, hbw, c1', c2'⟩ := EdgesIn.cell HE2.out hqE
      have c1 := (Hrb.out.below.cell (p := ⟨b, off + q * 2, none⟩) hbw).trans c1'
      have c2 := (Hrb.out.below.cell (p := ⟨b, off + q * 2 + 1, none⟩) hbw).trans c2'
      clear c1' c2'
      have htk := take_getD (edgesL code) q hqE
      have hmem : (edgesL code).getD q (0, 0) ∈ edgesL code := by rw [List.getD_eq_getElem?_getD, List.getElem?_eq_getElem hqE]; exact List.getElem_mem hqE
      generalize (edgesL code).getD q (0, 0) = ed at c1 c2 htk hmem
      obtain ⟨u, v0⟩ := ed
      obtain ⟨m1, m2, m3, m4, _⟩ := edgesL_mem hmem
      have hcl := edgesL_can hmem
      simp only at c1 c2 m1 m2 m3 m4
      obtain ⟨v, rfl⟩ := Int.eq_ofNat_of_zero_le m3
      have hv : v < nR := by rw [HnR.out, Hcan.out, hcl]; omega
      have hlm : (intoAt (List.replicate nR 0) ((edgesL code).take q)).length = nR := by rw [intoAt_length, List.length_replicate]
      have hlf : (fromAt (List.replicate nR 0) ((edgesL code).take q)).length = nR := by rw [fromAt_length, List.length_replicate]
      have hb := intoAt_bound nR ((edgesL code).take q) v
      have hql : ((edgesL code).take q).length ≤ 2048 := by rw [List.length_take]; have := edgesL_le code; omega
      have ci := OwnInts.cell Hrb.out.m (k := v) (by rw [hlm]; exact hv)
      have cf := OwnInts.cell Hrb.out.f (k := v) (by rw [hlf]; exact hv)
      have zi := OwnInts.free Hrb.out.m v
      have zf := OwnInts.free Hrb.out.f v
      have hst := RB.store Hrb.out v ((intoAt (List.replicate nR 0) ((edgesL code).take q)).getD v 0 + 1) u
      have em : (intoAt (List.replicate nR 0) ((edgesL code).take q)).set v ((intoAt (List.replicate nR 0) ((edgesL code).take q)).getD v 0 + 1) = intoAt (List.replicate nR 0) ((edgesL code).take (q + 1)) := by rw [htk, intoAt_snoc]; rfl
      have ef : (fromAt (List.replicate nR 0) ((edgesL code).take q)).set v u = fromAt (List.replicate nR 0) ((edgesL code).take (q + 1)) := by rw [htk, fromAt_snoc]; rfl
      rw [em, ef] at hst
      have Hst := Lib.hid hst
      clear hst em ef htk hmem hcl hlm hlf m3
      generalize (intoAt (List.replicate nR 0) ((edgesL code).take q)).getD v 0 = y at ci hb Hst
      generalize (fromAt (List.replicate nR 0) ((edgesL code).take q)).getD v 0 = z at cf
      have hwr : IntKind.i64.wrap (y + 1) = y + 1 := IntWalk.i64_in _ (by omega)
      obtain ⟨wX, hwX⟩ : ∃ wX, wX = wr.setCell ⟨w2.heap.size, v, none⟩ (.int .i64 (y + 1)) := ⟨_, rfl⟩
      have d1 : wX.cell? ⟨b, off + q * 2, none⟩ = some (.int .i64 u) := by rw [hwX]; exact (World.cell?_setCell_other _ _ _ _ (by intro e; cases e; omega)).trans c1
      have d2 : wX.cell? ⟨b, off + q * 2 + 1, none⟩ = some (.int .i64 (v : Int)) := by rw [hwX]; exact (World.cell?_setCell_other _ _ _ _ (by intro e; cases e; omega)).trans c2
      have d3 : wX.cell? ⟨w2.heap.size + 1, v, none⟩ = some (.int .i64 z) := by rw [hwX]; exact (World.cell?_setCell_other _ _ _ _ (by simp)).trans cf
      have d4 : wX.frozen? ⟨w2.heap.size + 1, v, none⟩ = false := by rw [hwX, World.frozen?_setCell]; exact zf
      go_wp2_with fail
      rw [← hwX] at Hst ⊢
      clear ci c1 c2 cf zi zf hwX hb hql
      go_region
      go_wp2_with fail
      go_roundg (nE - (q + 1))
      case measure => have := Hg.out; omega
      case rel => exact ⟨q + 1, hqn, rfl, by go_num, Hst.out⟩
    · obtain rfl : q = nE := by omega
      have htk : (edgesL code).take q = edgesL code := by rw [List.take_of_length_le (by rw [← HnE.out]; exact Nat.le_refl _)]
      have hrb := Hrb.out
      rw [htk] at hrb
      obtain ⟨many, hmany⟩ : ∃ many, many = intoAt (List.replicate nR 0) (edgesL code) := ⟨_, rfl⟩
      obtain ⟨frm, hfrm⟩ : ∃ frm, frm = fromAt (List.replicate nR 0) (edgesL code) := ⟨_, rfl⟩
      rw [← hmany, ← hfrm] at hrb
      have hlm : many.length = nR := by rw [hmany, intoAt_length, List.length_replicate]
      have hlf : frm.length = nR := by rw [hfrm, fromAt_length, List.length_replicate]
      have hfin : rblocksTo code many frm can nR = blocksL code := by rw [hmany, hfrm, HnR.out]; exact rblocks_eq code can Hcan.out
      obtain ⟨wS, rfl⟩ : ∃ wS : World, wS = wr := ⟨_, rfl⟩
      have hfS : FnAt wS w.heap.size s vp regs words vc := Hfn2.out.later hrb.below (by omega)
      have hbS : Below w.heap.size w wS := Hbl2.out.trans (hrb.below.mono (by omega))
      have hvS : OwnBools wS (w.heap.size + 1) (.slice a8 nR c8) can := ownsRow_below HV2.out hrb.below (Nat.le_refl _)
      have hszS : w.heap.size + 1 ≤ wS.heap.size := by have := hrb.size; omega
      have HfS := Lib.hid hfS
      have HbS := Lib.hid hbS
      have HvS := Lib.hid hvS
      have HrS := Lib.hid (And.intro hrb (And.intro hlm hlf))
      have Hfin := Lib.hid hfin
      clear htk hrb hmany hfrm hlm hlf hfin hfS hbS hvS Hrb Hg HE2 Hfn2 Hbl2 HV2 hq hqn hsz2
      go_wp2_with fail
      go_loopg [8, 9, 10, 11] nR (fun g out i _ _ wx => ∃ k : Nat, k ≤ nR ∧ g = nR - k ∧ i = .int .i64 k ∧ OwnInts wx wS.heap.size out (rblocksTo code many frm can k) ∧ Below wS.heap.size wS wx)
      case atStart => exact ⟨0, Nat.zero_le _, rfl, rfl, owns_empty wS _ _ (Nat.le_refl _), (Below.refl _ _).alloc (Nat.le_refl _) _⟩
      case round =>
        obtain ⟨k, hk, hg, rfl, hown, hbr⟩ := hrel
        have Hg := Lib.hid hg
        have Hown := Lib.hid hown
        have Hbr := Lib.hid hbr
        clear hg hown hbr
        by_cases hkn : k < nR
        · obtain ⟨g8, rfl⟩ := hc8 (by omega)
          have hck : wr.cell? ⟨g8, k, none⟩ = some (.bool (can.getD k false)) := OwnBools.cell (ownsRow_below HvS.out Hbr.out (Nat.le_refl _)) (by rw [← HnR.out]; exact hkn)
          have hmk : wr.cell? ⟨w2.heap.size, k, none⟩ = some (.int .i64 (many.getD k 0)) := OwnInts.cell (ownsRow_below HrS.out.1.m Hbr.out (Nat.le_refl _)) (by rw [HrS.out.2.1]; exact hkn)
          have hfk : wr.cell? ⟨w2.heap.size + 1, k, none⟩ = some (.int .i64 (frm.getD k 0)) := OwnInts.cell (ownsRow_below HrS.out.1.f Hbr.out (Nat.le_refl _)) (by rw [HrS.out.2.2]; exact hkn)
          have hstep : rblocksTo code many frm can (k + 1) = rblocksTo code many frm can k ++ if (can.getD k false && !rwithin code many frm k) = true then [(k : Int)] else [] := rfl
          have hwi : rwithin code many frm k = (decide (0 < k) && (decide (many.getD k 0 = 1) && (decide (frm.getD k 0 = (k : Int) - 1) && decide ((nextL code ((k : Int) - 1)).length = 1)))) := rfl
          have hlo : (rblocksTo code many frm can k).length ≤ 1000000000000 := Nat.le_trans (rblocksTo_le _ _ _ _ _) (by omega)
          have Hstep := Lib.hid hstep
          have Hwi := Lib.hid hwi
          have Hlo := Lib.hid hlo
          clear hstep hwi hlo
          cases hb : can.getD k false
          · have hstay : rblocksTo code many frm can (k + 1) = rblocksTo code many frm can k := by rw [Hstep.out, hb]; simp
            rw [hb] at hck
            have Hstay := Lib.hid hstay
            clear hb hstay hmk hfk Hstep Hwi
            go_wp2_with fail
            go_roundg (nR - (k + 1))
            case measure => have := Hg.out; omega
            case rel => exact ⟨k + 1, hkn, rfl, by go_num, by rw [Hstay.out]; exact Hown.out, Hbr.out⟩
          · rw [hb] at hck
            have hst2 : rwithin code many frm k = false → rblocksTo code many frm can (k + 1) = rblocksTo code many frm can k ++ [(k : Int)] := fun h => by rw [Hstep.out, hb, h]; simp
            have hst3 : rwithin code many frm k = true → rblocksTo code many frm can (k + 1) = rblocksTo code many frm can k := fun h => by rw [Hstep.out, hb, h]; simp
            have Hst2 := Lib.hid hst2
            have Hst3 := Lib.hid hst3
            clear hb hst2 hst3 Hstep
            by_cases hin : 0 < k ∧ many.getD k 0 = 1 ∧ frm.getD k 0 = (k : Int) - 1
            · obtain ⟨h1, h2, h3⟩ := hin
              have e2 : (many.getD k 0 == 1) = true := by simpa using h2
              have e3 : (frm.getD k 0 == (k : Int) - 1) = true := by simpa using h3
              obtain ⟨nl, hnl⟩ : ∃ nl, nl = (nextL code ((k : Int) - 1)).length := ⟨_, rfl⟩
              have hwl : rwithin code many frm k = decide (nl = 1) := by rw [Hwi.out, decide_eq_true h1, decide_eq_true h2, decide_eq_true h3, ← hnl]; rfl
              have Hwl := Lib.hid hwl
              have Hnl := Lib.hid hnl
              clear hwl hnl h2 h3 Hwi
              generalize many.getD k 0 = y at hmk e2
              generalize frm.getD k 0 = z at hfk e3
              obtain ⟨f0, f1, f2, f3, f4⟩ := HfS.out.later Hbr.out (by omega)
              have hcode : CodeIn wr vc code := SliceIn.later Hc.out (HbS.out.trans (Hbr.out.mono (by omega)))
              have Hcode := Lib.hid hcode
              clear hcode
              go_wp2_with fail
              refine (rnext_any s vp regs words vc code _ _ Hlen.out Hcode.out).mono ?_
              rintro e w3 ⟨v9, rfl, hv9, hb3⟩
              obtain ⟨a9, c9, rfl⟩ := ints_form hv9
              rw [← Hnl.out] at hv9 ⊢
              have hb4 : Below wS.heap.size wS w3 := Hbr.out.trans (hb3.mono Hbr.out.size)
              have hown4 : OwnInts w3 wS.heap.size u8 (rblocksTo code many frm can k) := ownsRow_below Hown.out hb3 (Nat.le_refl _)
              have Hb4 := Lib.hid hb4
              have Hown4 := Lib.hid hown4
              clear hb3 hb4 hown4 hv9 f0 f1 f2 f3 f4 hck hmk hfk Hcode
              by_cases hn1 : nl = 1
              · have hnx : rblocksTo code many frm can (k + 1) = rblocksTo code many frm can k := Hst3.out (by rw [Hwl.out, decide_eq_true hn1])
                have hd1 : ((nl : Int) == 1) = true := by simp [hn1]
                have Hnx := Lib.hid hnx
                clear hnx hn1 Hwl Hst2 Hst3
                go_wp2_with fail
                go_roundg (nR - (k + 1))
                case measure => have := Hg.out; omega
                case rel => exact ⟨k + 1, hkn, rfl, by go_num, by rw [Hnx.out]; exact Hown4.out, Hb4.out⟩
              · have hnx : rblocksTo code many frm can (k + 1) = rblocksTo code many frm can k ++ [(k : Int)] := Hst2.out (by rw [Hwl.out, decide_eq_false hn1])
                have hd1 : ((nl : Int) == 1) = false := by simp; omega
                have Hnx := Lib.hid hnx
                clear hnx hn1 Hwl Hst2 Hst3
                go_wp2_with (at_builtin; refine append_int rfl _ _ rfl wS.heap.size _ _ rfl Hown4.out _ rfl Hlo.out Hb4.out.size ?_)
                intro v' w' ho' hgr hfr hbb
                have hb' := hbb _ _ Hb4.out (Nat.le_refl _)
                have HH : Hid (OwnInts w' wS.heap.size v' (rblocksTo code many frm can (k + 1))) := by rw [Hnx.out]; exact ho'
                have HB' := Lib.hid hb'
                clear ho' hgr hfr hbb hb'
                go_wp2_with fail
                go_roundg (nR - (k + 1))
                case measure => have := Hg.out; omega
                case rel => exact ⟨k + 1, hkn, rfl, by go_num, HH.out, HB'.out⟩
            · have hn : rwithin code many frm k = false := by
                rw [Hwi.out]
                by_cases h1 : 0 < k
                · by_cases h2 : many.getD k 0 = 1
                  · have h3 : ¬ frm.getD k 0 = (k : Int) - 1 := fun h => hin ⟨h1, h2, h⟩
                    rw [decide_eq_false h3]; simp
                  · rw [decide_eq_false h2]; simp
                · simp [h1]
              have hcs : (k : Int) ≤ 0 ∨ (0 < k ∧ (many.getD k 0 == 1) = false) ∨ (0 < k ∧ (many.getD k 0 == 1) = true ∧ (frm.getD k 0 == (k : Int) - 1) = false) := by
                by_cases h1 : k = 0
                · exact .inl (by omega)
                · by_cases h2 : many.getD k 0 = 1
                  · exact .inr (.inr ⟨by omega, by simpa using h2, by simp; intro h; exact hin ⟨by omega, h2, h⟩⟩)
                  · exact .inr (.inl ⟨by omega, by simpa using h2⟩)
              have hnx := Hst2.out hn
              have Hnx := Lib.hid hnx
              clear hn hnx hin Hst2 Hst3 Hwi
              generalize many.getD k 0 = y at hmk hcs
              generalize frm.getD k 0 = z at hfk hcs
              rcases hcs with h0 | ⟨h0, h1⟩ | ⟨h0, h1, h2⟩
              all_goals
                go_wp2_with (at_builtin; refine append_int rfl _ _ rfl wS.heap.size _ _ rfl Hown.out _ rfl Hlo.out Hbr.out.size ?_)
                intro v' w' ho' hgr hfr hbb
                have hb' := hbb _ _ Hbr.out (Nat.le_refl _)
                have HH : Hid (OwnInts w' wS.heap.size v' (rblocksTo code many frm can (k + 1))) := by rw [Hnx.out]; exact ho'
                have HB' := Lib.hid hb'
                clear ho' hgr hfr hbb hb'
                go_wp2_with fail
                go_roundg (nR - (k + 1))
                case measure => have := Hg.out; omega
                case rel => exact ⟨k + 1, hkn, rfl, by go_num, HH.out, HB'.out⟩
        · obtain rfl : k = nR := by omega
          go_wp2_with fail
          go_ret
          rw [← Hfin.out]
          exact ⟨_, rfl, ownsRow_mono Hown.out (by omega), HbS.out.trans (Hbr.out.mono (by omega))⟩
end Go.Proofs.Ytggkeodoenhmoaa
