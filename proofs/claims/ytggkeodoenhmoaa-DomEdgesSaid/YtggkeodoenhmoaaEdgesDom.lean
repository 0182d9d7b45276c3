/- The statement DomEdges' walk: of every function and number it answers true and leaves what was there. -/
import Derived.Test.YtggkeodoenhmoaaFixed13
import Derived.Test.YtggkeodoenhmoaaDominates
import Derived.Test.YtggkeodoenhmoaaREdges
namespace Go.Proofs.Ytggkeodoenhmoaa
open Go.RowKit

theorem edge_near {code : List Ins} {l : List Int} (ht : IsTree code l) {u v : Nat} (h : ((u : Int), (v : Int)) ∈ edgesL code) (h0 : v ≠ 0) :
    ∃ p : Nat, l.getD v 0 = (p : Int) ∧ p < code.length ∧ domB code p u = true := by
  obtain ⟨m1, m2, m3, m4, m5, m6, m7, m8⟩ := edgesL_mem h
  simp only at m1 m2 m3 m4 m5 m7 m8
  have hr : Rch code (-1) v := by simpa using m8
  have hu : Rch code (-1) u := by simpa using m7
  obtain ⟨p, e, g1, g2, g3⟩ := ht.some v (by omega) h0 hr
  have hp := g2.pred g1 hu (by simpa using m5)
  refine ⟨p, e, g2.1.lt (by omega), domB_iff.2 ⟨m6, by omega, ?_, by omega, by omega, by simpa using hp⟩⟩
  have := g2.1.lt (by omega)
  omega
theorem edge_anti {code : List Ins} {u v : Nat} (h : domB code u v = true) (k : domB code v u = true) : u = v := by
  obtain ⟨_, _, _, _, _, h⟩ := domB_iff.1 h
  obtain ⟨_, _, _, _, _, k⟩ := domB_iff.1 k
  exact Dom.antisymm (by simpa using h) (by simpa using k)

structure LE (w wr : World) (s : ByteArray) (vp : Value) (regs words : Int) (vc : Value) (code : List Ins) (vl ve : Value) (L : List Int) (E : List Edge) : Prop where
  fn : FnAt wr w.heap.size s vp regs words vc
  code : CodeIn wr vc code
  l : IntsIn wr vl L
  e : EdgesIn wr ve E
  below : Below w.heap.size w wr
  size : w.heap.size < wr.heap.size
theorem LE.later {w wr w' : World} {s : ByteArray} {vp : Value} {regs words : Int} {vc : Value} {code : List Ins} {vl ve : Value} {L : List Int} {E : List Edge} (h : LE w wr s vp regs words vc code vl ve L E) (hb : Below wr.heap.size wr w') : LE w w' s vp regs words vc code vl ve L E :=
  have hs := h.size
  ⟨h.fn.later hb hs, SliceIn.later h.code hb, SliceIn.later h.l hb, SliceIn.later h.e hb, h.below.trans (hb.mono (by omega)), Nat.lt_of_lt_of_le hs hb.size⟩

set_option maxRecDepth 100000 in
set_option maxHeartbeats 4000000 in
theorem lawEdgesDom_any (s : ByteArray) (vp : Value) (regs words : Int) (vc : Value) (code : List Ins) (pick : Int) (w : World) (hlen : code.length * 40 ≤ 140737488351232) (hc : CodeIn w vc code) :
    Calls Try.prog 11 #[fnV s vp regs words vc, .int .i64 pick] w (Gives (.bool true) w) := by
  have Hlen := Lib.hid hlen
  have Hc := Lib.hid hc
  clear hlen hc
  go_enter Try.func11, Try.ntmps11
  go_wp2_with fail
  refine (fixed13_any _).mono ?_
  rintro e wA ⟨rfl, hbA⟩
  have hbwA : Below w.heap.size w wA := ((Below.refl _ _).alloc (Nat.le_refl _) _).trans (hbA.mono (by simp))
  have HfA : Hid (FnAt wA w.heap.size s vp regs words vc) := (FnAt.box w s vp regs words vc _).later hbA (by simp)
  have hsA : w.heap.size < wA.heap.size := by have := hbA.size; simp at this; omega
  have HbwA := Lib.hid hbwA
  clear hbA hbwA
  obtain ⟨f0, f1, f2, f3, f4⟩ := HfA.out
  go_wp2_with fail
  refine (tree_any s vp regs words vc code _ (SliceIn.later Hc.out HbwA.out)).mono ?_
  rintro e wB ⟨htree, v7, rfl, hv7, hbB⟩
  have HfB : Hid (FnAt wB w.heap.size s vp regs words vc ∧ Below w.heap.size w wB) := ⟨HfA.out.later hbB hsA, HbwA.out.trans (hbB.mono (by omega))⟩
  have hsB : w.heap.size < wB.heap.size := Nat.lt_of_lt_of_le hsA hbB.size
  clear f0 f1 f2 f3 f4 hbB HfA HbwA
  obtain ⟨f0, f1, f2, f3, f4⟩ := HfB.out.1
  obtain ⟨L, hL⟩ : ∃ L, L = treeL code := ⟨_, rfl⟩
  rw [← hL] at htree hv7
  have Ht := Lib.hid htree
  have Hv7 : Hid (OwnInts wB 0 v7 L) := ownsRow_mono hv7 (Nat.zero_le _)
  have HL := Lib.hid hL
  clear htree hv7 hL hsA
  go_wp2_with fail
  refine (redges_any s vp regs words vc code _ Hlen.out (SliceIn.later Hc.out HfB.out.2)).mono ?_
  rintro e wC ⟨v8, rfl, hv8, hbC⟩
  have HfC : Hid (FnAt wC w.heap.size s vp regs words vc ∧ Below w.heap.size w wC) := ⟨HfB.out.1.later hbC hsB, HfB.out.2.trans (hbC.mono (by omega))⟩
  have hsC : w.heap.size < wC.heap.size := Nat.lt_of_lt_of_le hsB hbC.size
  have Hv7C : Hid (OwnInts wC 0 v7 L) := ownsRow_below Hv7.out hbC (Nat.le_refl _)
  have Hv8 : Hid (OwnEdges wC 0 v8 (edgesL code)) := ownsRow_mono hv8 (Nat.zero_le _)
  clear f0 f1 f2 f3 f4 hbC HfB hv8 Hv7 hsB
  obtain ⟨f0, f1, f2, f3, f4⟩ := HfC.out.1
  go_wp2_with fail
  refine (rreach_any s vp regs words vc code _ Hlen.out (SliceIn.later Hc.out HfC.out.2)).mono ?_
  rintro e wD ⟨v9, rfl, hv9, hbD⟩
  have hLE : LE w wD s vp regs words vc code v7 v8 L (edgesL code) := ⟨HfC.out.1.later hbD hsC, SliceIn.later Hc.out (HfC.out.2.trans (hbD.mono (by omega))), SliceIn.later (SliceIn.of_owns Hv7C.out) hbD, SliceIn.later (SliceIn.of_owns Hv8.out) hbD, HfC.out.2.trans (hbD.mono (by omega)), Nat.lt_of_lt_of_le hsC hbD.size⟩
  clear f0 f1 f2 f3 f4
  obtain ⟨can, hcan⟩ : ∃ can, can = reachL code (-1) := ⟨_, rfl⟩
  rw [← hcan] at hv9
  have hlc : can.length = if hasB code = true then code.length else 0 := by rw [hcan, reachL_length]
  have hll : L.length = can.length := by
    rw [hlc, HL.out]
    cases hh : hasB code
    · rw [treeL_none hh]; rfl
    · rw [← HL.out, (Ht.out hh).len]; rfl
  obtain ⟨E, hE⟩ : ∃ E, E = edgesL code := ⟨_, rfl⟩
  have Hv8 := Hv8.out
  rw [← hE] at hLE Hv8
  obtain ⟨a7, c7, rfl, ha7⟩ : ∃ a7 c7, v7 = .slice a7 L.length c7 ∧ (0 < L.length → ∃ g, a7 = some ⟨g, 0, none⟩) := by
    rcases Hv7C.out.form with ⟨h, h2⟩ | ⟨g, c, h, _⟩
    · exact ⟨none, 0, by rw [h, h2]; rfl, by rw [h2]; simp⟩
    · exact ⟨_, _, h, fun _ => ⟨g, rfl⟩⟩
  obtain ⟨a8, c8, rfl, ha8⟩ : ∃ a8 c8, v8 = .slice a8 E.length c8 ∧ (0 < E.length → ∃ g, a8 = some ⟨g, 0, none⟩) := by
    rcases Hv8.form with ⟨h, h2⟩ | ⟨g, c, h, _⟩
    · exact ⟨none, 0, by rw [h, h2]; rfl, by rw [h2]; simp⟩
    · exact ⟨_, _, h, fun _ => ⟨g, rfl⟩⟩
  obtain ⟨a9, c9, rfl⟩ : ∃ a9 c9, v9 = .slice a9 can.length c9 := by
    rcases hv9.form with ⟨h, h2⟩ | ⟨g, c, h, _⟩
    · exact ⟨none, 0, by rw [h, h2]; rfl⟩
    · exact ⟨_, _, h⟩
  obtain ⟨n, hn⟩ : ∃ n, n = can.length := ⟨_, rfl⟩
  obtain ⟨m, hm⟩ : ∃ m, m = E.length := ⟨_, rfl⟩
  rw [hll] at ha7 hLE ⊢
  rw [← hn] at ha7 hLE hll hlc ⊢
  rw [← hm] at ha8 hLE ⊢
  have hn2 : n ≤ 1024 := by
    rw [hlc]; split
    · rename_i h; simp [hasB] at h; exact h.2
    · omega
  have hm2 : m ≤ 2048 := by rw [hm, hE]; exact edgesL_le code
  have Hlc := Lib.hid hlc
  have Hll := Lib.hid hll
  have Hn := Lib.hid hn
  have Hm := Lib.hid hm
  have HE := Lib.hid hE
  have Hcan := Lib.hid hcan
  have HLE := Lib.hid hLE
  clear hlc hll hn hm hE hcan hLE hv9 hbD Hv7C Hv8 HfC hsC
  by_cases hm0 : m = 0
  · subst hm0
    go_wp2_with fail
    go_ret
    exact ⟨rfl, HLE.out.below⟩
  · have hm1 : 0 < m := by omega
    clear hm0
    obtain ⟨g8, rfl⟩ := ha8 hm1
    go_upto_if 32 with (fail)
    go_cut [8] (fun v wc => ∃ kn : Nat, kn < m ∧ v = .int .i64 (kn : Int) ∧ wc = wD)
    case first =>
      have ht1 : pick.tmod (m : Int) < m := by have := Int.tmod_lt_of_pos pick (show (0 : Int) < m by omega); omega
      have ht2 : -(m : Int) < pick.tmod (m : Int) := by have := Int.lt_tmod_of_pos pick (show (0 : Int) < m by omega); omega
      by_cases hp : 0 ≤ pick.tmod (m : Int)
      · have hp1 : decide (pick.tmod (m : Int) < 0) = false := by simp; omega
        go_wp2_with fail
        go_meet
        case rel => exact ⟨(pick.tmod (m : Int)).toNat, by omega, by go_num, rfl⟩
      · have hp1 : decide (pick.tmod (m : Int) < 0) = true := by simp; omega
        go_wp2_with fail
        go_meet
        case rel => exact ⟨(-(pick.tmod (m : Int))).toNat, by omega, by go_num, rfl⟩
    case rest =>
      obtain ⟨kn, hkn, rfl, rfl⟩ := hcut
      have hh : hasB code = true := by
        cases hh : hasB code
        · have := edgesL_le code
          have h0 : (edgesL code).length = 0 := by unfold edgesL; rw [reachL_length, hh]; rfl
          rw [Hm.out, HE.out] at hm1; omega
        · rfl
      have hcl : n = code.length := by have := Hlc.out; rw [if_pos hh] at this; exact this
      have hpos : 0 < n := by rw [hcl]; simp [hasB] at hh; exact hh.1
      obtain ⟨g7, rfl⟩ := ha7 hpos
      have Hcl := Lib.hid hcl
      have HT := Lib.hid (Ht.out hh)
      clear hh hcl Hlc Ht
      go_wp2_with fail
      go_loopg [9] m (fun g iv wr => ∃ i : Nat, g = m - i ∧ iv = .int .i64 (i : Int) ∧ i ≤ m ∧ i ≤ 20 ∧ LE w wr s vp regs words vc code (.slice (some ⟨g7, 0, none⟩) n c7) (.slice (some ⟨g8, 0, none⟩) m c8) L E)
      case atStart => exact ⟨0, rfl, rfl, Nat.zero_le _, Nat.zero_le _, HLE.out⟩
      case round =>
        obtain ⟨i, hg, rfl, him, hi20, hL⟩ := hrel
        have Hg := Lib.hid hg
        have HL2 := Lib.hid hL
        clear hg hL HLE
        by_cases hin : i < 20 ∧ i < m
        · obtain ⟨hi1, hi2⟩ := hin
          obtain ⟨j, hj⟩ : ∃ j, j = (kn + i) % m := ⟨_, rfl⟩
          have hjm : j < m := by rw [hj]; exact Nat.mod_lt _ hm1
          have hj2 : ((kn : Int) + (i : Int)) % (m : Int) = (j : Int) := by rw [hj]; push_cast; rfl
          have hjE : j < E.length := by rw [← Hm.out]; exact hjm
          obtain ⟨b, off, he, hbw, c1, c2⟩ := EdgesIn.cell HL2.out.e hjE
          cases he
          rw [Nat.zero_add] at c1 c2
          have hmem : E.getD j (0, 0) ∈ edgesL code := by rw [HE.out]; rw [HE.out] at hjE; rw [List.getD_eq_getElem?_getD, List.getElem?_eq_getElem hjE]; exact List.getElem_mem hjE
          generalize E.getD j (0, 0) = ed at c1 c2 hmem
          obtain ⟨u0, v0⟩ := ed
          obtain ⟨m1, m2, m3, m4, _⟩ := edgesL_mem hmem
          simp only at c1 c2 m1 m2 m3 m4
          obtain ⟨u, rfl⟩ := Int.eq_ofNat_of_zero_le m1
          obtain ⟨v, rfl⟩ := Int.eq_ofNat_of_zero_le m3
          have hun : u < n := by rw [Hcl.out]; omega
          have hvn : v < n := by rw [Hcl.out]; omega
          have Hmem := Lib.hid hmem
          clear hmem m1 m2 m3 m4 hj hjE
          obtain ⟨W, hW⟩ : ∃ W, W = wr.alloc (.cells #[.int .i64 (u : Int), .int .i64 (v : Int)] 51) := ⟨_, rfl⟩
          obtain ⟨bx, hbx⟩ : ∃ bx, bx = wr.heap.size := ⟨_, rfl⟩
          have hLW : LE w W s vp regs words vc code (.slice (some ⟨g7, 0, none⟩) n c7) (.slice (some ⟨g8, 0, none⟩) m c8) L E := by rw [hW]; exact HL2.out.later ((Below.refl _ _).alloc (Nat.le_refl _) _)
          have b0 : W.cell? ⟨bx, 0, none⟩ = some (.int .i64 (u : Int)) := by rw [hW, hbx, World.cell?_alloc_at _ _ _ _ rfl]; rfl
          have b1 : W.cell? ⟨bx, 1, none⟩ = some (.int .i64 (v : Int)) := by rw [hW, hbx, World.cell?_alloc_at _ _ _ _ rfl]; rfl
          have hbs : bx < W.heap.size := by rw [hW, hbx]; simp
          go_upto_region 17 with (fail)
          rw [← hW, ← hbx]
          have HLW := Lib.hid hLW
          clear hLW hW hbx c1 c2 hbw HL2 hj2
          obtain ⟨f0, f1, f2, f3, f4⟩ := HLW.out.fn
          go_cut [76] (fun z wc => z = .bool false ∧ LE w wc s vp regs words vc code (.slice (some ⟨g7, 0, none⟩) n c7) (.slice (some ⟨g8, 0, none⟩) m c8) L E ∧ wc.cell? ⟨bx, 0, none⟩ = some (.int .i64 (u : Int)) ∧ wc.cell? ⟨bx, 1, none⟩ = some (.int .i64 (v : Int)) ∧ bx < wc.heap.size)
          case first =>
            by_cases hv0 : v = 0
            · have hq1 : ((v : Int) != 0) = false := by simp [hv0]
              clear hv0
              go_wp2_with (go_quiet (fail))
              go_meet
              case rel => exact ⟨rfl, HLW.out.later (below_draws W nq), (World.cell?_drewN _ _ _).trans b0, (World.cell?_drewN _ _ _).trans b1, by have := (below_draws W nq).size; omega⟩
            · have hq1 : ((v : Int) != 0) = true := by rw [bne_iff_ne]; omega
              obtain ⟨p, hp1, hp2, hp3⟩ := edge_near HT.out Hmem.out hv0
              obtain ⟨b7, o7, he7, hb7, hlv⟩ := IntsIn.cell HLW.out.l (k := v) (by rw [Hll.out]; exact hvn)
              cases he7
              rw [hp1, Nat.zero_add] at hlv
              have hpn : p < n := by rw [Hcl.out]; exact hp2
              have hd : decide ((p : Int) < 0) = false := by simp
              have Hp3 := Lib.hid hp3
              clear hv0 hp1 hp2 hp3
              go_still_tail 19, (by kernel_rfl)
              change wpList _ _ _ _ _ W.drew
              have HLD : Hid (LE w W.drew s vp regs words vc code (.slice (some ⟨g7, 0, none⟩) n c7) (.slice (some ⟨g8, 0, none⟩) m c8) L E) := HLW.out.later (Below.refl _ _).drew
              go_wp2_with fail
              refine (dominates_any s vp regs words vc code (p : Int) (u : Int) _ HLD.out.code).mono ?_
              rintro e wX ⟨-, rfl, hbX⟩
              rw [Hp3.out]
              have HLX : Hid (LE w wX s vp regs words vc code (.slice (some ⟨g7, 0, none⟩) n c7) (.slice (some ⟨g8, 0, none⟩) m c8) L E ∧ wX.cell? ⟨bx, 0, none⟩ = some (.int .i64 (u : Int)) ∧ wX.cell? ⟨bx, 1, none⟩ = some (.int .i64 (v : Int)) ∧ bx < wX.heap.size) :=
                have hb := (Below.refl W.heap.size W).drew.trans hbX
                ⟨HLW.out.later hb, (hb.cell (by exact hbs)).trans b0, (hb.cell (by exact hbs)).trans b1, Nat.lt_of_lt_of_le hbs hb.size⟩
              clear hbX
              go_wp2_with fail
              go_meet
              case rel => exact ⟨rfl, HLX.out⟩
          case rest =>
            obtain ⟨rfl, hL, b0, b1, hbs⟩ := hcut
            have HL := Lib.hid hL
            clear hL HLW f0 f1 f2 f3 f4
            obtain ⟨f0, f1, f2, f3, f4⟩ := HL.out.fn
            have him3 : (i : Int) + 1 ≤ 21 := by omega
            by_cases huv : u = v
            · have hq : ((u : Int) != (v : Int)) = false := by simp [huv]
              clear huv
              go_wp2_with fail
              go_roundg (m - (i + 1))
              case measure => have := Hg.out; omega
              case rel => exact ⟨i + 1, rfl, by go_num, by omega, by omega, HL.out⟩
            · have hq : ((u : Int) != (v : Int)) = true := by rw [bne_iff_ne]; omega
              have hnd : ¬ (domB code u v = true ∧ domB code v u = true) := fun h => huv (edge_anti h.1 h.2)
              have Hnd := Lib.hid hnd
              clear huv hnd
              go_wp2_with fail
              refine (dominates_any s vp regs words vc code (u : Int) (v : Int) _ HL.out.code).mono ?_
              rintro e wX ⟨-, rfl, hbX⟩
              have HLX : Hid (LE w wX s vp regs words vc code (.slice (some ⟨g7, 0, none⟩) n c7) (.slice (some ⟨g8, 0, none⟩) m c8) L E) := HL.out.later hbX
              have b0 := (hbX.cell (p := ⟨bx, 0, none⟩) hbs).trans b0
              have b1 := (hbX.cell (p := ⟨bx, 1, none⟩) hbs).trans b1
              clear hbX f0 f1 f2 f3 f4
              obtain ⟨f0, f1, f2, f3, f4⟩ := HLX.out.fn
              cases hd : domB code u v
              · clear hd
                go_wp2_with fail
                go_roundg (m - (i + 1))
                case measure => have := Hg.out; omega
                case rel => exact ⟨i + 1, rfl, by go_num, by omega, by omega, HLX.out⟩
              · have Hd2 : Hid (domB code v u = false) := Bool.eq_false_iff.2 fun h => Hnd.out ⟨hd, h⟩
                clear hd
                go_wp2_with fail
                refine (dominates_any s vp regs words vc code (v : Int) (u : Int) _ HLX.out.code).mono ?_
                rintro e wY ⟨-, rfl, hbY⟩
                rw [Hd2.out]
                have HLY : Hid (LE w wY s vp regs words vc code (.slice (some ⟨g7, 0, none⟩) n c7) (.slice (some ⟨g8, 0, none⟩) m c8) L E) := HLX.out.later hbY
                clear hbY
                go_wp2_with fail
                go_roundg (m - (i + 1))
                case measure => have := Hg.out; omega
                case rel => exact ⟨i + 1, rfl, by go_num, by omega, by omega, HLY.out⟩
        · by_cases h20 : i < 20
          · have him2 : i = m := by omega
            have hq2 : decide ((i : Int) < (m : Int)) = false := by simp; omega
            have hq4 : decide (i < m) = false := by simp; omega
            have hq5 : ¬ i < m := by omega
            have hq6 : (i : Int) < 20 := by omega
            clear hin h20 him2
            go_wp2_with fail
            go_ret
            exact ⟨rfl, HL2.out.below⟩
          · have hq3 : decide ((i : Int) < 20) = false := by simp; omega
            clear hin h20
            go_wp2_with fail
            go_ret
            exact ⟨rfl, HL2.out.below⟩
end Go.Proofs.Ytggkeodoenhmoaa
