/- The statement LoopsNest's walk: of every function it answers true and leaves what was there. -/
import Derived.Test.YtapjdndcnenadaaDoorNestRows
import Derived.Test.YtapjdndcnenadaaDoorFixed14
import Derived.Test.YtapjdndcnenadaaDoorREdges
import Derived.BigQuiet
namespace Go.Proofs.YtapjdndcnenadaaDoor
open Go.RowKit

theorem find_told {code : List Ins} {l : List LP} {E a : Int} (h : FindIs code l E a) : (E ≠ 0 ∧ l = []) ∨ (E = 0 ∧ a = 0 ∧ code.length ≤ 1024 ∧ ToldL code l ∧ (∀ v, ¬ Way (aheadE code) v v) ∧ ∀ h ∈ headsL code, (countsOf code h (memL code h) (toI (backsE code) h)).1 = 0) := by
  rcases h with ⟨_, h, e, _⟩ | ⟨_, _, h, e⟩ | ⟨_, _, h, _, _, _, _, _, e⟩ | ⟨h1, h2, h3, h4, h5, h6, h7⟩
  · exact .inl ⟨by omega, h⟩
  · exact .inl ⟨by omega, h⟩
  · exact .inl ⟨e, h⟩
  · exact .inr ⟨h4, h5, h1, ⟨h6, h7⟩, h2, h3⟩

set_option maxRecDepth 100000 in
set_option maxHeartbeats 8000000 in
theorem lawNest_any (s : ByteArray) (vp : Value) (regs words : Int) (vc : Value) (code : List Ins) (w : World) (hlen : code.length * 40 ≤ 140737488351232) (hc : CodeIn w vc code) (hw : WritesIn w) :
    Calls Tryd.prog 5 #[fnV s vp regs words vc] w (Gives (.bool true) w) := by
  have Hlen := Lib.hid hlen
  have Hc := Lib.hid hc
  have Hw := Lib.hid hw
  clear hlen hc hw
  go_enter Tryd.func5, Tryd.ntmps5
  go_wp2_with fail
  refine (fixed14_any _ (Hw.out.next ((Below.refl _ _).alloc (Nat.le_refl _) _))).mono ?_
  rintro e wA ⟨rfl, hbA⟩
  have hbwA : Below w.heap.size w wA := ((Below.refl _ _).alloc (Nat.le_refl _) _).trans (hbA.mono (by simp))
  have HfA : Hid (FnAt wA w.heap.size s vp regs words vc) := (FnAt.box w s vp regs words vc _).later hbA (by simp)
  have hsA : w.heap.size < wA.heap.size := by have := hbA.size; simp at this; omega
  have HbwA := Lib.hid hbwA
  clear hbA hbwA
  obtain ⟨f0, f1, f2, f3, f4⟩ := HfA.out
  go_wp2_with fail
  refine (find_any s vp regs words vc code _ Hlen.out (SliceIn.later Hc.out HbwA.out) (Hw.out.next HbwA.out)).mono ?_
  rintro e w2 ⟨v, l, E, at', rfl, hl, hf, hb2⟩
  have hX : NX w2 w.heap.size s vp regs words vc code v l := ⟨by have := hb2.size; omega, HfA.out.later hb2 hsA, hl.toIn, SliceIn.later Hc.out (HbwA.out.trans (hb2.mono (by omega)))⟩
  have Hb2 : Hid (Below w.heap.size w w2) := HbwA.out.trans (hb2.mono (by omega))
  have hform := hl.toIn.form
  have HX := Lib.hid hX
  have Hf := Lib.hid (find_told hf)
  clear hl hf hb2 hX f0 f1 f2 f3 f4 HfA hsA HbwA
  obtain ⟨av, cv, rfl, hlm, hav⟩ := hform
  obtain ⟨m, hm⟩ : ∃ m, m = l.length := ⟨_, rfl⟩
  rw [← hm] at hlm hav HX ⊢
  have Hm := Lib.hid hm
  clear hm
  by_cases hE : E = 0
  · obtain ⟨-, -, hn1024, htold, -, -⟩ : E = 0 ∧ at' = 0 ∧ code.length ≤ 1024 ∧ ToldL code l ∧ (∀ v, ¬ Way (aheadE code) v v) ∧ ∀ h ∈ headsL code, (countsOf code h (memL code h) (toI (backsE code) h)).1 = 0 := by
      rcases Hf.out with ⟨h, _⟩ | h
      · exact absurd hE h
      · exact h
    subst hE
    have HT := Lib.hid htold
    have hm1024 : m ≤ 1024 := by
      rw [Hm.out, htold.len]
      exact Nat.le_trans (headsL_len code) hn1024
    clear htold Hf hlm
    obtain ⟨n, hn⟩ : ∃ n, n = code.length := ⟨_, rfl⟩
    rw [← hn] at hn1024
    have Hn := Lib.hid hn
    have hcv := HX.out.code
    obtain ⟨-, ac, cc, hvc, -⟩ := hcv
    rw [← hn] at hvc
    subst hvc
    clear hn
    have hmb := fun w => make_bools_run n (by omega) w
    obtain ⟨B, hB⟩ : ∃ B, B = w2.heap.size := ⟨_, rfl⟩
    have HB := Lib.hid hB
    have hwB : w.heap.size < B := by rw [hB]; exact HX.out.lt
    have hR0 : RWS (w2.alloc (.cells #[] 45)) B (B + 1) n (.slice (some ⟨B, 0, none⟩) 0 0) [] (bitN l) := by
      rw [hB]
      refine ⟨owns_empty w2 _ _ (Nat.le_refl _), fun i hi => absurd hi (Nat.not_lt_zero i), fun k hk => ?_, by simp⟩
      simp [Value.ownBlock] at hk; omega
    have HR0 := Lib.hid hR0
    clear hR0 hB
    go_wp2_with fail
    rw [← HB.out]
    go_loopg [6, 7, 8, 9, 10] m (fun g rv iv _ _ _ wr => ∃ (k : Nat) (vs : List Value), g = m - k ∧ iv = .int .i64 (k : Int) ∧ k ≤ m ∧ vs.length = k ∧ Below B w2 wr ∧ RWS wr B wr.heap.size n rv vs (bitN l))
    case atStart => exact ⟨0, [], rfl, rfl, Nat.zero_le _, rfl, by rw [HB.out]; exact (Below.refl _ _).alloc (Nat.le_refl _) _, HR0.out.top⟩
    case round =>
      obtain ⟨k, vs, hg, rfl, hk, hvs, hbr, hR⟩ := hrel
      obtain ⟨wo, rfl⟩ : ∃ W, W = wr := ⟨_, rfl⟩
      have Hg := Lib.hid hg
      have Hbr := Lib.hid hbr
      have HR := Lib.hid hR
      have Hvs := Lib.hid hvs
      clear hg hbr hR hvs HR0
      by_cases hkm : k < m
      · as_aux_lemma =>
        obtain ⟨gv, ov, rfl, hgv⟩ := hav (by omega)
        obtain ⟨x, hx⟩ : ∃ x, l[k]? = some x := ⟨_, List.getElem?_eq_getElem (by rw [← Hm.out]; exact hkm)⟩
        have hXr := HX.out.later (by rw [← HB.out]; exact Hbr.out)
        obtain ⟨c0, c1, c2, c3⟩ := hXr.loops.at' (by exact hx)
        obtain ⟨hxm, hxb⟩ := hXr.loops.each x (List.mem_of_getElem? hx)
        obtain ⟨f0, f1, f2, f3, f4⟩ := hXr.fn
        obtain ⟨hh1, hh2, hh3, hh4, hh5⟩ := HT.out.head_at hx
        rw [← Hn.out] at hh2
        have hmem := fun (j : Nat) (u : Int) (hu : x.mem[j]? = some u) => HT.out.mem_at hx hu
        obtain ⟨xh, xp, xvm, xvb, xm, xb⟩ := x
        simp only at c0 c1 c2 c3 hxm hxb hh1 hh2 hh4 hh5 hmem
        rw [← Hn.out] at hmem
        have hxm0 := hxm
        obtain ⟨-, am, cm, rfl, -, hmm, -, ham⟩ := hxm0
        obtain ⟨-, ab, cb, rfl, -⟩ := hxb
        obtain ⟨nm, hnm⟩ : ∃ nm, nm = xm.length := ⟨_, rfl⟩
        obtain ⟨nb, hnb⟩ : ∃ nb, nb = xb.length := ⟨_, rfl⟩
        have hnm9 : nm ≤ 1000000 := by
          have h1 := (HT.out.at' hx).2.1
          simp only at h1
          rw [hnm, h1]
          exact Nat.le_trans (memL_len code xh) (by rw [← Hn.out]; omega)
        rw [← hnm] at c2 ham
        rw [← hnb] at c3
        obtain ⟨G, hG⟩ : ∃ G, G = wo.heap.size := ⟨_, rfl⟩
        have hBG : B ≤ G := by rw [hG, HB.out]; exact Hbr.out.size
        have hcs : ∀ wx, Below G wo wx → wx.cell? ⟨gv, ov + k * 4, none⟩ = some (.int .i64 xh) ∧ wx.cell? ⟨gv, ov + k * 4 + 1, none⟩ = some (.int .i64 xp) ∧ wx.cell? ⟨gv, ov + k * 4 + 2, none⟩ = some (.slice am nm cm) ∧ wx.cell? ⟨gv, ov + k * 4 + 3, none⟩ = some (.slice ab nb cb) := fun wx hb => by
          rw [hG] at hb
          have hlt : gv < wo.heap.size := block_lt_of_cell c0
          exact ⟨(hb.cell hlt).trans c0, (hb.cell hlt).trans c1, (hb.cell hlt).trans c2, (hb.cell hlt).trans c3⟩
        have Hcs := Lib.hid hcs
        have HXr := Lib.hid hXr
        have Hh := Lib.hid (And.intro hh4 hh5)
        have Hmem := Lib.hid hmem
        have Hx := Lib.hid hx
        have Hnm := Lib.hid hnm
        have Hxm := Lib.hid hxm
        obtain ⟨wA', hwA⟩ : ∃ W, W = wo.alloc (.cells (zeroBools n) 4) := ⟨_, rfl⟩
        have hrow : OwnBools wA' G (rowV G n) (List.replicate n false) := by
          rw [hwA, hG]
          exact owns_zeroBools wo n (Nat.le_refl _) (by omega)
        have hbA : Below G wo wA' := by rw [hwA, hG]; exact (Below.refl _ _).alloc (Nat.le_refl _) _
        have HA := Lib.hid (And.intro hrow hbA)
        have HwA := Lib.hid hwA
        have HG := Lib.hid hG
        clear hcs hXr hh3 hh4 hh5 hmem hnm hnb hG hrow hbA hwA hxm hx hmm c1 c3 f0 f1 f2 f3
        go_wp2_with fail
        rw [← HwA.out, ← HG.out]
        clear c0 c2 f4
        go_loopg [9, 10] nm (fun g iv _ wx => ∃ (j : Nat) (rl : List Bool), g = nm - j ∧ iv = .int .i64 (j : Int) ∧ j ≤ nm ∧ RowIs n xm j rl ∧ OwnBools wx G (rowV G n) rl ∧ Below G wo wx)
        case atStart => exact ⟨0, _, rfl, rfl, Nat.zero_le _, RowIs.zero n xm, HA.out.1, HA.out.2⟩
        case round =>
          obtain ⟨j, rl, hg2, rfl, hj, hri, hrow, hbx⟩ := hrel
          obtain ⟨c0, c1, c2, c3⟩ := Hcs.out _ hbx
          have Hg2 := Lib.hid hg2
          have Hri := Lib.hid hri
          have Hrow := Lib.hid hrow
          have Hbx := Lib.hid hbx
          clear hg2 hri hrow hbx
          by_cases hjn : j < nm
          · obtain ⟨gm, om, rfl, hgm, hcm⟩ := ham (by omega)
            obtain ⟨u, hu⟩ : ∃ u, xm[j]? = some u := ⟨_, List.getElem?_eq_getElem (by rw [← Hnm.out]; exact hjn)⟩
            obtain ⟨hu1, hu2, hu3⟩ := Hmem.out j u hu
            obtain ⟨q, rfl⟩ : ∃ q : Nat, u = q := ⟨u.toNat, by omega⟩
            have hcu : World.cell? _ ⟨gm, om + j, none⟩ = some (.int .i64 q) := (Hbx.out.cell (p := ⟨gm, om + j, none⟩) (by rw [HG.out]; exact hgm)).trans (hcm j _ (by simp [intVs, hu]))
            have hqn : q < n := by omega
            have crq := OwnBools.cell Hrow.out (k := q) (by rw [Hri.out.len]; exact hqn)
            have frq := OwnBools.free Hrow.out q
            have Hnx : Hid (RowIs n xm (j + 1) (rl.set q true) ∧ OwnBools (World.setCell _ ⟨G, q, none⟩ (.bool true)) G (rowV G n) (rl.set q true) ∧ Below G wo (World.setCell _ ⟨G, q, none⟩ (.bool true))) := ⟨Hri.out.next hu hqn, OwnBools.store Hrow.out q true, Hbx.out.setCell (Nat.le_refl _) _⟩
            cases j with
            | zero =>
              rw [Nat.add_zero] at hcu
              clear hcm hu hu3
              generalize rl.getD q false = r0 at crq
              go_wp2_with fail
              go_roundg (nm - 1)
              case measure => have := Hg2.out; omega
              case rel => exact ⟨1, _, rfl, by go_num, hjn, Hnx.out.1, Hnx.out.2.1, Hnx.out.2.2⟩
            | succ i =>
              obtain ⟨y, hy⟩ : ∃ y, xm[i]? = some y := ⟨_, List.getElem?_eq_getElem (by rw [← Hnm.out]; omega)⟩
              have hyq := hu3 i y (by omega) hy
              have hcy : World.cell? _ ⟨gm, om + i, none⟩ = some (.int .i64 y) := (Hbx.out.cell (p := ⟨gm, om + i, none⟩) (by rw [HG.out]; exact hgm)).trans (hcm i _ (by simp [intVs, hy]))
              clear hcm hu hu3 hy
              generalize rl.getD q false = r0 at crq
              go_wp2_with fail
              go_roundg (nm - (i + 1 + 1))
              case measure => have := Hg2.out; omega
              case rel => exact ⟨i + 1 + 1, _, rfl, by go_num, hjn, Hnx.out.1, Hnx.out.2.1, Hnx.out.2.2⟩
          · obtain rfl : j = nm := by omega
            have HRr : Hid (RWS _ B G n u6 vs (bitN l)) := HR.out.later' HG.out Hbx.out
            obtain ⟨hp1, hp2⟩ := parent_range HT.out Hx.out
            simp only at hp1 hp2
            rw [← Hm.out] at hp2
            obtain ⟨hq, rfl⟩ : ∃ a : Nat, xh = a := ⟨xh.toNat, by omega⟩
            have hqn : hq < n := by omega
            have Hbits : Hid (∀ b, b < n → rl.getD b false = bitN l vs.length b) := fun b hb => by
              rw [Hri.out.all (by rw [Hnm.out]; exact Nat.le_refl _) hb, Hvs.out, bitN_at Hx.out]
            have crh := OwnBools.cell Hrow.out (k := hq) (by rw [Hri.out.len]; exact hqn)
            rw [Hri.out.all (by rw [Hnm.out]; exact Nat.le_refl _) hqn, decide_eq_true Hh.out.1] at crh
            have HQ : Hid (∀ W, Below wr.heap.size wr W → RWS W B G n u6 vs (bitN l) ∧ OwnBools W G (rowV G n) rl ∧ B ≤ W.heap.size ∧ Below B w2 W) := fun W hb => by
              have h1 : G ≤ wr.heap.size := by rw [HG.out]; exact Hbx.out.size
              have h2 := hb.size
              exact ⟨HRr.out.later (hb.mono h1), ownsRow_below Hrow.out hb (Nat.le_refl _), by omega, (Hbr.out.trans (Hbx.out.mono hBG)).trans (hb.mono (by omega))⟩
            have g1 : decide ((hq : Int) < 0) = false := by simp
            have g2 : decide (n ≤ hq) = false := by simp; omega
            have g3 : decide ((n : Int) ≤ (hq : Int)) = false := by simp; omega
            have g4 : decide (xp < -1) = false := by simp; omega
            have g5 : decide ((m : Int) ≤ xp) = false := by simp; omega
            cases k with
            | zero =>
              simp only [Nat.zero_mul, Nat.add_zero] at c0 c1 c2 c3
              clear c3
              go_upto_region 18 with (fail)
              go_quiet (fail)
              generalize hwq : World.drewN _ _ = wq
              have hbq : Below wr.heap.size wr wq := by rw [← hwq]; exact below_draws _ _
              obtain ⟨q1, q2, q3, q4⟩ := HQ.out wq hbq
              have HQ2 := Lib.hid (And.intro q1 (And.intro q2 (And.intro q3 q4)))
              clear hwq hbq q1 q2 q3 q4 g1 g2 g3 g4 g5 c0 c1 c2 crh ham hmb
              go_wp2_with (at_builtin; refine append_gen rfl _ _ 44 rfl Tryd.underlying44 Tryd.infoBoolRow rfl (by decide) B _ vs.length vs rfl (World.ownsRow.alloc HQ2.out.1.rows _) _ 1 [rowV G n] rfl (sliceIn_new _ [rowV G n] 1 1 45 rfl (by decide)) ?_ ?_ ?_ ?_ ?_)
              · intro u hu; simp at hu; subst hu; rfl
              · have := Hvs.out; unfold maxLen; omega
              · have := Hvs.out; omega
              · have := HQ2.out.2.2.1; simp; omega
              · intro v' w' ho hgr hfr hbb
                have hP := RWS.push HQ2.out.1 (Nat.le_refl _) hBG HQ2.out.2.1 Hbits.out Hri.out.len ho hgr hfr
                have hbw := hbb B w2 (HQ2.out.2.2.2.alloc HQ2.out.2.2.1 _) (Nat.le_refl _)
                have HP := Lib.hid (And.intro hP hbw)
                clear ho hgr hfr hbb hP hbw
                go_wp2_with fail
                go_roundg (m - (0 + 1))
                case measure => have := Hg.out; omega
                case rel => exact ⟨0 + 1, _, rfl, by go_num, hkm, by rw [List.length_append, Hvs.out]; rfl, HP.out.2, HP.out.1⟩
            | succ kk =>
              obtain ⟨y, hy⟩ : ∃ y, l[kk]? = some y := ⟨_, List.getElem?_eq_getElem (by rw [← Hm.out]; omega)⟩
              have hyx := Hh.out.2 kk y (by omega) hy
              have cy := ((HXr.out.later (by rw [← HG.out]; exact Hbx.out)).loops.at' hy).1
              obtain ⟨yh, yp, yvm, yvb, ym, yb⟩ := y
              simp only at hyx cy
              clear hy
              have g6 : decide ((hq : Int) ≤ yh) = false := by simp; omega
              have g7 : decide ((0 : Int) < ((kk + 1 : Nat) : Int)) = true := by simp
              have g8 : decide (0 < kk + 1) = true := by simp
              go_upto_region 18 with (fail)
              go_quiet (fail)
              generalize hwq : World.drewN _ _ = wq
              have hbq : Below wr.heap.size wr wq := by rw [← hwq]; exact below_draws _ _
              obtain ⟨q1, q2, q3, q4⟩ := HQ.out wq hbq
              have HQ2 := Lib.hid (And.intro q1 (And.intro q2 (And.intro q3 q4)))
              clear hwq hbq q1 q2 q3 q4 g1 g2 g3 g4 g5 g6 g7 g8 cy c0 c1 c2 crh ham hmb
              go_wp2_with (at_builtin; refine append_gen rfl _ _ 44 rfl Tryd.underlying44 Tryd.infoBoolRow rfl (by decide) B _ vs.length vs rfl (World.ownsRow.alloc HQ2.out.1.rows _) _ 1 [rowV G n] rfl (sliceIn_new _ [rowV G n] 1 1 45 rfl (by decide)) ?_ ?_ ?_ ?_ ?_)
              · intro u hu; simp at hu; subst hu; rfl
              · have := Hvs.out; unfold maxLen; omega
              · have := Hvs.out; omega
              · have := HQ2.out.2.2.1; simp; omega
              · intro v' w' ho hgr hfr hbb
                have hP := RWS.push HQ2.out.1 (Nat.le_refl _) hBG HQ2.out.2.1 Hbits.out Hri.out.len ho hgr hfr
                have hbw := hbb B w2 (HQ2.out.2.2.2.alloc HQ2.out.2.2.1 _) (Nat.le_refl _)
                have HP := Lib.hid (And.intro hP hbw)
                clear ho hgr hfr hbb hP hbw
                go_wp2_with fail
                go_roundg (m - ((kk + 1) + 1))
                case measure => have := Hg.out; omega
                case rel => exact ⟨(kk + 1) + 1, _, rfl, by go_num, hkm, by rw [List.length_append, Hvs.out]; rfl, HP.out.2, HP.out.1⟩
      · obtain rfl : m = k := by omega
        obtain ⟨ar, cr, rfl, har⟩ : ∃ ar cr, u6 = .slice ar m cr ∧ (0 < m → ∃ g, ar = some ⟨g, 0, none⟩) := by
          have := HR.out.rows
          rw [Hvs.out] at this
          rcases this.2 with ⟨h1, h2⟩ | ⟨g, cap, cur, h1, _⟩
          · exact ⟨none, 0, by rw [h1, h2], by omega⟩
          · exact ⟨_, cap, h1, fun _ => ⟨g, rfl⟩⟩
        have hBo : B ≤ wo.heap.size := by rw [HB.out]; exact Hbr.out.size
        have HXo := Lib.hid (HX.out.later (by rw [← HB.out]; exact Hbr.out))
        have Hbo : Hid (Below w.heap.size w wo) := Hb2.out.trans (Hbr.out.mono (by omega))
        obtain ⟨ds, hds⟩ : ∃ ds, ds = (headsL code).map (loopD code) := ⟨_, rfl⟩
        have Hds := Lib.hid hds
        clear hds hk
        go_wp2_with fail
        go_loopg [11, 12, 13, 14, 15] m (fun g iv _ _ _ _ wx => ∃ i : Nat, g = m - i ∧ iv = .int .i64 (i : Int) ∧ i ≤ m ∧ Below wo.heap.size wo wx)
        case atStart => exact ⟨0, rfl, rfl, Nat.zero_le _, Below.refl _ _⟩
        case round =>
          obtain ⟨i, hg, rfl, hi, hb⟩ := hrel
          have Hg3 := Lib.hid hg
          have Hb3 := Lib.hid hb
          clear hg hb
          by_cases him : i < m
          · obtain ⟨gv, ov, rfl, hgv⟩ := hav (by omega)
            obtain ⟨gr, rfl⟩ := har (by omega)
            obtain ⟨x, hx⟩ : ∃ x, l[i]? = some x := ⟨_, List.getElem?_eq_getElem (by rw [← Hm.out]; exact him)⟩
            obtain ⟨hh1, hh2, -, -, -⟩ := HT.out.head_at hx
            rw [← Hn.out] at hh2
            have hcx := fun W (hb : Below wo.heap.size wo W) => ((HXo.out.later hb).loops.at' hx)
            obtain ⟨ri, hri1, hri2⟩ := HR.out.at' (i := i) (by rw [Hvs.out]; exact him)
            have hrow := fun W (hb : Below wo.heap.size wo W) => (HR.out.later hb).at' (i := i) (by rw [Hvs.out]; exact him)
            obtain ⟨hq, hhq⟩ : ∃ a : Nat, x.head = a := ⟨x.head.toNat, by omega⟩
            have hqn : hq < n := by omega
            have Hx := Lib.hid hx
            have Hcx := Lib.hid hcx
            have Hrow := Lib.hid hrow
            have Hhq := Lib.hid hhq
            clear hx hcx hrow hhq hh1 hh2
            go_wp2_with fail
            go_loopg [12, 13, 14, 15] m (fun g av kv _ _ wx => ∃ k : Nat, g = m - k ∧ av = .int .i64 (aroundOf ds i k : Nat) ∧ kv = .int .i64 (k : Int) ∧ k ≤ m ∧ Below wo.heap.size wo wx)
            case atStart => exact ⟨0, rfl, rfl, rfl, Nat.zero_le _, Hb3.out⟩
            case round =>
              obtain ⟨k, hg, rfl, rfl, hk, hb⟩ := hrel
              have Hg4 := Lib.hid hg
              have Hb4 := Lib.hid hb
              clear hg hb
              obtain ⟨ak, hak⟩ : ∃ ak, ak = aroundOf ds i k := ⟨_, rfl⟩
              rw [← hak]
              have hak9 : ak ≤ k := by rw [hak]; exact around_le ds i k
              have Hak := Lib.hid hak
              clear hak
              by_cases hkm : k < m
              · as_aux_lemma =>
                obtain ⟨y, hy⟩ : ∃ y, l[k]? = some y := ⟨_, List.getElem?_eq_getElem (by rw [← Hm.out]; exact hkm)⟩
                obtain ⟨hh1, hh2, -, -, -⟩ := HT.out.head_at hy
                rw [← Hn.out] at hh2
                obtain ⟨hp, hhp⟩ : ∃ a : Nat, y.head = a := ⟨y.head.toNat, by omega⟩
                have hpn : hp < n := by omega
                obtain ⟨X1, X2, -, -⟩ := HT.out.at' Hx.out
                obtain ⟨Y1, Y2, -, -⟩ := HT.out.at' hy
                by_cases hki : k = i
                · have hq1 : ((k : Int) == (i : Int)) = true := by simp [hki]
                  have Har : Hid (aroundOf ds i (k + 1) = ak) := by
                    show _ = _
                    rw [around_succ, ← Hak.out, hki]
                    simp [withinD]
                  clear hki hy hh1 hh2 hhp X1 X2 Y1 Y2
                  go_wp2_with fail
                  go_roundg (m - (k + 1))
                  case measure => have := Hg4.out; omega
                  case rel => exact ⟨k + 1, rfl, by rw [Har.out], by go_num, hkm, Hb4.out⟩
                · have hq1 : ((k : Int) == (i : Int)) = false := by simp; omega
                  obtain ⟨has, hhas⟩ : ∃ has, has = bitN l k hq := ⟨_, rfl⟩
                  have Hwi : Hid (withinD ds i k = has) := by
                    show _ = _
                    rw [Bool.eq_iff_iff, Hds.out, withinD_iff X1 Y1, hhas, bitN_at hy, ← Hhq.out, Y2]
                    simp; omega
                  have Hck : Hid (∀ q : Nat, bitN l i q = true → bitN l k q = has ∨ (bitN l k q = true ∧ bitN l i hp = true)) := fun q hq' => by
                    rw [bitN_at Hx.out, X2] at hq'
                    rw [hhas, bitN_at hy, bitN_at hy, bitN_at Hx.out, ← Hhq.out, ← hhp, X2, Y2]
                    rcases nest_check (List.mem_of_getElem? X1) (List.mem_of_getElem? Y1) (heads_ne X1 Y1 (fun e => hki e.symm)) (of_decide_eq_true hq') with h | ⟨h1, h2⟩
                    · exact .inl h
                    · exact .inr ⟨decide_eq_true h1, decide_eq_true h2⟩
                  have hrow := fun W (hb : Below wo.heap.size wo W) => (HR.out.later hb).at' (i := k) (by rw [Hvs.out]; exact hkm)
                  have hcy := fun W (hb : Below wo.heap.size wo W) => ((HXo.out.later hb).loops.at' hy)
                  have cx := (Hcx.out _ Hb4.out).1
                  rw [Hhq.out] at cx
                  obtain ⟨rk, ck1, ck2⟩ := hrow _ Hb4.out
                  have ck := ck2 hq hqn
                  rw [← hhas] at ck
                  have Hrowk := Lib.hid hrow
                  have Hcy := Lib.hid hcy
                  have Hhp := Lib.hid hhp
                  clear ck2 hrow hcy hy hh1 hh2 hhp X1 X2 Y1 Y2 hki hhas
                  go_wp2_with (go_quiet (fail))
                  generalize hwq : World.drewN _ _ = wq
                  have hbq : Below wo.heap.size wo wq := by rw [← hwq]; exact below_drewN Hb4.out _
                  have Hbq := Lib.hid hbq
                  clear hwq hbq cx ck ck1 hq1
                  go_loopg [15] n (fun g nv wx => ∃ q : Nat, g = n - q ∧ nv = .int .i64 (q : Int) ∧ q ≤ n ∧ Below wo.heap.size wo wx)
                  case atStart => exact ⟨0, rfl, rfl, Nat.zero_le _, Hbq.out⟩
                  case round =>
                    obtain ⟨q, hg, rfl, hqn', hb⟩ := hrel
                    have Hg5 := Lib.hid hg
                    have Hb5 := Lib.hid hb
                    have f4 := (HXo.out.later hb).fn.c4
                    clear hg hb
                    by_cases hqq : q < n
                    · have cy := (Hcy.out _ Hb5.out).1
                      rw [Hhp.out] at cy
                      obtain ⟨ri, ci1, ci2⟩ := Hrow.out _ Hb5.out
                      obtain ⟨rk, ck1, ck2⟩ := Hrowk.out _ Hb5.out
                      have biq := ci2 q hqq
                      have bip := ci2 hp hpn
                      have bkq := ck2 q hqq
                      have hck := Hck.out q
                      clear ci2 ck2
                      generalize bitN l i q = biq' at biq hck
                      generalize bitN l k q = bkq' at bkq hck
                      generalize bitN l i hp = bip' at bip hck
                      cases biq'
                      · clear hck
                        go_wp2_with (go_quiet (fail))
                        go_roundg (n - (q + 1))
                        case measure => have := Hg5.out; omega
                        case rel => exact ⟨q + 1, rfl, by go_num, hqq, below_drewN Hb5.out _⟩
                      · have hck := hck rfl
                        cases bkq'
                        · have hhas : has = false := by
                            rcases hck with h | ⟨h, _⟩
                            · exact h.symm
                            · cases h
                          subst hhas
                          clear hck
                          go_wp2_with (go_quiet (fail))
                          go_roundg (n - (q + 1))
                          case measure => have := Hg5.out; omega
                          case rel => exact ⟨q + 1, rfl, by go_num, hqq, below_drewN Hb5.out _⟩
                        · cases has
                          · have hbip : bip' = true := by
                              rcases hck with h | ⟨_, h⟩
                              · cases h
                              · exact h
                            subst hbip
                            clear hck
                            go_wp2_with (go_quiet (fail))
                            go_roundg (n - (q + 1))
                            case measure => have := Hg5.out; omega
                            case rel => exact ⟨q + 1, rfl, by go_num, hqq, below_drewN Hb5.out _⟩
                          · clear hck
                            go_wp2_with (go_quiet (fail))
                            go_roundg (n - (q + 1))
                            case measure => have := Hg5.out; omega
                            case rel => exact ⟨q + 1, rfl, by go_num, hqq, below_drewN Hb5.out _⟩
                    · obtain rfl : q = n := by omega
                      have Har : Hid (aroundOf ds i (k + 1) = ak + if has = true then 1 else 0) := by
                        show _ = _
                        rw [around_succ, ← Hak.out, Hwi.out]
                      cases has
                      · go_wp2_with fail
                        go_roundg (m - (k + 1))
                        case measure => have := Hg4.out; omega
                        case rel => exact ⟨k + 1, rfl, by rw [Har.out]; simp, by go_num, hkm, Hb5.out⟩
                      · go_wp2_with fail
                        go_roundg (m - (k + 1))
                        case measure => have := Hg4.out; omega
                        case rel => exact ⟨k + 1, rfl, by rw [Har.out]; simp, by go_num, hkm, Hb5.out⟩
              · as_aux_lemma =>
                obtain rfl : m = k := by omega
                have hak0 : ak = aroundOf ds i (headsL code).length := by rw [Hak.out, Hm.out, HT.out.len]
                have c0 := (Hcx.out _ Hb4.out).1
                have c1 := (Hcx.out _ Hb4.out).2.1
                rw [Hhq.out] at c0
                by_cases hz : ak = 0
                · have hpar : x.parent = -1 := no_parent HT.out Hx.out (by rw [← Hds.out, ← hak0]; exact hz)
                  rw [hpar] at c1
                  subst hz
                  clear hak0 hpar
                  go_wp2_with (go_quiet (fail))
                  go_roundg (m - (i + 1))
                  case measure => have := Hg3.out; omega
                  case rel => exact ⟨i + 1, rfl, by go_num, him, below_drewN Hb4.out _⟩
                · obtain ⟨q, y, hpq, hqi, hy, hxy, hdep⟩ := depth_parent HT.out Hx.out (by rw [← Hds.out, ← hak0]; omega)
                  rw [← Hds.out, ← hak0] at hdep
                  rw [hpq] at c1
                  obtain ⟨hh1, hh2, -, -, -⟩ := HT.out.head_at hy
                  obtain ⟨hp, hhp⟩ : ∃ a : Nat, y.head = a := ⟨y.head.toNat, by omega⟩
                  rw [hhp] at hdep
                  have hqm : q < m := by rw [Hm.out]; exact (List.getElem?_eq_some_iff.1 hy).1
                  have hXr := HXo.out.later Hb4.out
                  have c2 := (hXr.loops.at' hy).1
                  rw [hhp] at c2
                  obtain ⟨rq, r1, r2⟩ := (HR.out.later Hb4.out).at' (i := q) (by rw [Hvs.out]; exact hqm)
                  have r3 := r2 hq hqn
                  rw [bitN_at hy, ← Hhq.out, decide_eq_true hxy] at r3
                  have Hdep := Lib.hid hdep
                  have HLr := Lib.hid hXr.loops
                  have HC0 := Lib.hid (And.intro c0 (And.intro c1 (And.intro c2 (And.intro r1 r3))))
                  have q1 : ((ak : Int) == 0) = false := by simp; omega
                  have q2 : decide ((0 : Int) < (ak : Int)) = true := by simp; omega
                  have q2' : decide (0 < ak) = true := by simp; omega
                  have q3 : decide ((q : Int) < 0) = false := by simp
                  have q4 : ((q : Int) == (i : Int)) = false := by simp; omega
                  have q5 : ((ak : Int) != (ak : Int)) = false := by simp
                  have hgvw : gv < wr.heap.size := block_lt_of_cell c0
                  have hgrw : gr < wr.heap.size := block_lt_of_cell r1
                  have hrqw : rq < wr.heap.size := block_lt_of_cell r3
                  clear hak0 hz hpq hqi hy hxy hdep hh1 hh2 hhp hXr r1 r2 r3 c0 c1 c2
                  go_upto_region 37 with (fail)
                  refine wp_region_after wr.heap.size (by kernel_rfl) (by kernel_rfl) ?_
                  have d0 := After.cell (B := wr.heap.size) HC0.out.1 hgvw
                  have d1 := After.cell (B := wr.heap.size) HC0.out.2.1 hgvw
                  have d2 := After.cell (B := wr.heap.size) HC0.out.2.2.1 hgvw
                  have d3 := After.cell (B := wr.heap.size) HC0.out.2.2.2.1 hgrw
                  have d4 := After.cell (B := wr.heap.size) HC0.out.2.2.2.2 hrqw
                  repeat (go_big_quiet_step ((rename_i d; refine (depth_any _ l (hp : Int) _ (HLr.out.later d.h)).mono ?_; rintro e w' ⟨rfl, hbN⟩; rw [Hdep.out]; exact ⟨rfl, ⟨w', d.h.trans (hbN.mono d.h.size)⟩, rfl⟩)))
                  refine wpQuiet_nil ?_
                  rintro _ ⟨d, rfl⟩
                  have Hd := Lib.hid (Hb4.out.trans (d.h.mono Hb4.out.size))
                  generalize d.w = wd at Hd
                  clear d0 d1 d2 d3 d4
                  go_wp2_with fail
                  go_roundg (m - (i + 1))
                  case measure => have := Hg3.out; omega
                  case rel => exact ⟨i + 1, rfl, by go_num, him, Hd.out⟩
          · as_aux_lemma => --ROUND3END
            obtain rfl : m = i := by omega
            obtain ⟨f0, f1, f2, f3, f4⟩ := (HXo.out.later Hb3.out).fn
            go_wp2_with fail
            refine (redges_any s vp regs words (.slice ac n cc) code _ Hlen.out (HXo.out.later Hb3.out).code).mono ?_
            rintro e wE ⟨ve, rfl, hve, hbE⟩
            have hbo : Below wo.heap.size wo wE := Hb3.out.trans (hbE.mono Hb3.out.size)
            obtain ⟨nE, hnE⟩ : ∃ nE, nE = (edgesL code).length := ⟨_, rfl⟩
            have hnE9 : nE ≤ 2048 := by rw [hnE]; exact edgesL_le code
            obtain ⟨ae, ce, rfl, hae⟩ : ∃ ae ce, ve = .slice ae nE ce ∧ (0 < nE → ∃ g, ae = some ⟨g, 0, none⟩ ∧ g < wE.heap.size) := by
              rcases hve.form with ⟨h, h2⟩ | ⟨g, c, h, _, h3, _⟩
              · exact ⟨none, 0, by rw [h, hnE, h2]; rfl, by rw [hnE, h2]; simp⟩
              · exact ⟨_, c, by rw [h, hnE], fun _ => ⟨g, rfl, h3⟩⟩
            have hvi : EdgesIn wE (.slice ae nE ce) (edgesL code) := SliceIn.of_owns hve
            have Hve := Lib.hid hvi
            have Hbo2 := Lib.hid hbo
            have HnE := Lib.hid hnE
            clear hve hvi hbE hbo hnE f0 f1 f2 f3 f4
            go_wp2_with fail
            go_loopg [17, 18] nE (fun g iv _ wx => ∃ e : Nat, g = nE - e ∧ iv = .int .i64 (e : Int) ∧ e ≤ nE ∧ Below wE.heap.size wE wx)
            case atStart => exact ⟨0, rfl, rfl, Nat.zero_le _, Below.refl _ _⟩
            case round =>
              obtain ⟨e, hg, rfl, he, hb⟩ := hrel
              have Hg6 := Lib.hid hg
              have Hb6 := Lib.hid hb
              clear hg hb
              by_cases hen : e < nE
              · obtain ⟨ge, rfl, hge⟩ := hae (by omega)
                obtain ⟨⟨eu, ev⟩, hee⟩ : ∃ x, (edgesL code)[e]? = some x := ⟨_, List.getElem?_eq_getElem (by rw [← HnE.out]; exact hen)⟩
                have hem := List.mem_of_getElem? hee
                obtain ⟨u1, u2⟩ := edge_in hem
                obtain ⟨u, rfl⟩ : ∃ a : Nat, eu = a := ⟨eu.toNat, by have := u1.lo; omega⟩
                obtain ⟨v, rfl⟩ : ∃ a : Nat, ev = a := ⟨ev.toNat, by have := u2.lo; omega⟩
                have hun : u < n := by have := u1.hi; rw [Hn.out]; omega
                have hvn : v < n := by have := u2.hi; rw [Hn.out]; omega
                have hce : wE.cell? ⟨ge, 0 + e * 2, none⟩ = some (.int .i64 u) ∧ wE.cell? ⟨ge, 0 + e * 2 + 1, none⟩ = some (.int .i64 v) := by
                  obtain ⟨b, off, h1, h2, h3, h4⟩ := EdgesIn.cell Hve.out (k := e) (by rw [← HnE.out]; exact hen)
                  cases h1
                  rw [List.getD_eq_getElem?_getD, hee] at h3 h4
                  exact ⟨h3, h4⟩
                rw [Nat.zero_add] at hce
                have Hce := Lib.hid hce
                have Hem := Lib.hid hem
                clear hee hem u1 u2 hce
                go_wp2_with fail
                go_loopg [18] m (fun g kv wx => ∃ k : Nat, g = m - k ∧ kv = .int .i64 (k : Int) ∧ k ≤ m ∧ Below wE.heap.size wE wx)
                case atStart => exact ⟨0, rfl, rfl, Nat.zero_le _, Hb6.out⟩
                case round =>
                  obtain ⟨k, hg, rfl, hk, hb⟩ := hrel
                  have Hg7 := Lib.hid hg
                  have Hb7 := Lib.hid hb
                  clear hg hb
                  by_cases hkm : k < m
                  · obtain ⟨gv, ov, rfl, hgv⟩ := hav (by omega)
                    obtain ⟨gr, rfl⟩ := har (by omega)
                    obtain ⟨y, hy⟩ : ∃ y, l[k]? = some y := ⟨_, List.getElem?_eq_getElem (by rw [← Hm.out]; exact hkm)⟩
                    obtain ⟨hh1, hh2, -, -, -⟩ := HT.out.head_at hy
                    obtain ⟨Y1, Y2, -, -⟩ := HT.out.at' hy
                    obtain ⟨hp, hhp⟩ : ∃ a : Nat, y.head = a := ⟨y.head.toNat, by omega⟩
                    have hbx := Hbo2.out.trans (Hb7.out.mono Hbo2.out.size)
                    have cy := ((HXo.out.later hbx).loops.at' hy).1
                    rw [hhp] at cy
                    obtain ⟨rk, ck1, ck2⟩ := (HR.out.later hbx).at' (i := k) (by rw [Hvs.out]; exact hkm)
                    have bu := ck2 u hun
                    have bv := ck2 v hvn
                    have ce1 : World.cell? _ ⟨ge, e * 2, none⟩ = some (.int .i64 u) := (Hb7.out.cell (p := ⟨ge, e * 2, none⟩) hge).trans Hce.out.1
                    have ce2 : World.cell? _ ⟨ge, e * 2 + 1, none⟩ = some (.int .i64 v) := (Hb7.out.cell (p := ⟨ge, e * 2 + 1, none⟩) hge).trans Hce.out.2
                    have hent : bitN l k v = true → (v : Int) ≠ hp → bitN l k u = true := fun h1 h2 => by
                      rw [bitN_at hy, Y2] at h1 ⊢
                      exact decide_eq_true (nest_enter (List.mem_of_getElem? Y1) Hem.out (of_decide_eq_true h1) (by rw [hhp]; exact h2))
                    clear ck2 hy hh1 hh2 hhp Y1 Y2 hbx
                    generalize bitN l k u = bu' at bu hent
                    generalize bitN l k v = bv' at bv hent
                    cases bu'
                    · cases bv'
                      · clear hent
                        go_wp2_with (go_quiet (fail))
                        go_roundg (m - (k + 1))
                        case measure => have := Hg7.out; omega
                        case rel => exact ⟨k + 1, rfl, by go_num, hkm, below_drewN Hb7.out _⟩
                      · have hvp : v = hp := Classical.byContradiction fun h => by
                          have := hent rfl (by omega)
                          cases this
                        have q1 : ((v : Int) != (hp : Int)) = false := by simp [hvp]
                        clear hent hvp
                        go_wp2_with (go_quiet (fail))
                        go_roundg (m - (k + 1))
                        case measure => have := Hg7.out; omega
                        case rel => exact ⟨k + 1, rfl, by go_num, hkm, below_drewN Hb7.out _⟩
                    · clear hent
                      go_wp2_with (go_quiet (fail))
                      go_roundg (m - (k + 1))
                      case measure => have := Hg7.out; omega
                      case rel => exact ⟨k + 1, rfl, by go_num, hkm, below_drewN Hb7.out _⟩
                  · obtain rfl : m = k := by omega
                    go_wp2_with fail
                    go_roundg (nE - (e + 1))
                    case measure => have := Hg6.out; omega
                    case rel => exact ⟨e + 1, rfl, by go_num, hen, Hb7.out⟩
              · obtain rfl : nE = e := by omega
                have HF : Hid (Below w.heap.size w wr) := Hbo.out.trans ((Hbo2.out.trans (Hb6.out.mono Hbo2.out.size)).mono Hbo.out.size)
                go_wp2_with fail
                go_ret
                exact ⟨rfl, HF.out⟩
  · have hm0 : m = 0 := by
      rcases Hf.out with ⟨_, h⟩ | ⟨h, _⟩
      · rw [Hm.out, h]; rfl
      · exact absurd h hE
    subst hm0
    have hq : (E != 0) = true := by simp [hE]
    have Hb2' := Hb2
    clear hE Hf HX hav
    go_wp2_with fail
    go_ret
    exact ⟨rfl, Hb2'.out⟩
end Go.Proofs.YtapjdndcnenadaaDoor
