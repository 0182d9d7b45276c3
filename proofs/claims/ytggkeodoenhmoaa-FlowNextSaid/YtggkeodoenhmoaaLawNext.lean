/- The statement FlowNext's walk: of every function and number it answers true and leaves what was there. -/
import Derived.Test.YtggkeodoenhmoaaFixed
import Derived.Test.YtggkeodoenhmoaaRNext
import Derived.Test.YtggkeodoenhmoaaSameFn
namespace Go.Proofs.Ytggkeodoenhmoaa
open Go.RowKit

/-- Two lists of the call's own, made behind the world wX: one is written over, one is kept. -/
structure LI (wX wr : World) (vl vw : Value) (ll lw : List Int) : Prop where
  below : Below wX.heap.size wX wr
  l : OwnInts wr wX.heap.size vl ll
  want : OwnInts wr wX.heap.size vw lw
  apart : ∀ k, vl.ownBlock = some k → vw.ownBlock ≠ some k

theorem LI.later {wX wr w' : World} {vl vw : Value} {ll lw : List Int} (h : LI wX wr vl vw ll lw) (hb : Below wr.heap.size wr w') : LI wX w' vl vw ll lw :=
  ⟨h.below.trans (hb.mono h.below.size), ownsRow_below h.l hb (Nat.le_refl _), ownsRow_below h.want hb (Nat.le_refl _), h.apart⟩
theorem LI.store {wX wr : World} {g n cap : Nat} {vw : Value} {ll lw : List Int} (h : LI wX wr (.slice (some ⟨g, 0, none⟩) n cap) vw ll lw) (k : Nat) (b : Int) : LI wX (wr.setCell ⟨g, k, none⟩ (.int .i64 b)) (.slice (some ⟨g, 0, none⟩) n cap) vw (ll.set k b) lw :=
  have hgl := (World.ownsRow.lt h.l g rfl).1
  ⟨h.below.setCell hgl _, OwnInts.store h.l k b, ownsRow_setCell_other h.want (h.apart g rfl) _, h.apart⟩
/-- What is kept behind an append to the first list. -/
theorem LI.grown {wX wr w' : World} {vl vw : Value} {ll lw : List Int} {o : Obj} (h : LI wX wr vl vw ll lw) (hgr : (wr.alloc o).grownBy w' vl.ownBlock) : OwnInts w' wX.heap.size vw lw :=
  (World.ownsRow.alloc h.want _).kept hgr (by
    cases h5 : vl.ownBlock with
    | none =>
      rcases h.want.form with ⟨h2, _⟩ | ⟨g, c, h2, _⟩
      · left; rw [h2]; rfl
      · right; rw [h2]; simp [Value.ownBlock]
    | some g => right; exact h.apart g h5)

set_option maxRecDepth 100000 in
set_option maxHeartbeats 2000000 in
theorem lawNext_any (s : ByteArray) (vp : Value) (regs words : Int) (vc : Value) (params : List Span) (code : List Ins) (at' : Int) (w : World) (hlen : code.length * 40 ≤ 140737488351232) (hplen : params.length * 16 ≤ 140737488351232) (hc : CodeIn w vc code) (hp : SpansIn w vp params) :
    Calls Try.prog 3 #[fnV s vp regs words vc, .int .i64 at'] w (Gives (.bool true) w) := by
  have Hlen := Lib.hid hlen
  have Hplen := Lib.hid hplen
  have Hc := Lib.hid hc
  have Hp := Lib.hid hp
  clear hlen hplen hc hp
  go_enter Try.func3, Try.ntmps3
  go_wp2_with fail
  have hb0 : Below w.heap.size w (w.alloc (.cells #[.string s, vp, .int .i64 regs, .int .i64 words, vc] 25)) := (Below.refl _ _).alloc (Nat.le_refl _) _
  refine (copyFunc_any s vp regs words vc params code _ Hlen.out Hplen.out (SliceIn.later Hc.out hb0) (SliceIn.later Hp.out hb0)).mono ?_
  rintro e wA ⟨vp', vc', rfl, hpA, hcA, -, hbA⟩
  obtain ⟨a1, n1, c1, rfl⟩ := row_form hpA
  obtain ⟨a2, n2, c2, rfl⟩ := row_form hcA
  obtain ⟨wX, hwX⟩ : ∃ wX : World, wX = wA.alloc (.cells #[.string s, .slice a1 n1 c1, .int .i64 regs, .int .i64 words, .slice a2 n2 c2] 25) := ⟨_, rfl⟩
  have hbX : Below wA.heap.size wA wX := by rw [hwX]; exact (Below.refl _ _).alloc (Nat.le_refl _) _
  have hsA : w.heap.size < wA.heap.size := by have := hbA.size; simp at this; omega
  have hfS : FnAt wX w.heap.size s vp regs words vc := ((FnAt.box w s vp regs words vc _).later hbA (by simp)).later hbX hsA
  have hfO : FnAt wX wA.heap.size s (.slice a1 n1 c1) regs words (.slice a2 n2 c2) := by rw [hwX]; exact FnAt.box _ _ _ _ _ _ _
  have hbw : Below w.heap.size w wX := hb0.trans ((hbA.mono (by simp)).trans (hbX.mono (by omega)))
  have hsX : wA.heap.size + 1 ≤ wX.heap.size := by rw [hwX]; simp
  have hcO : CodeIn wX (.slice a2 n2 c2) code := SliceIn.later (SliceIn.of_owns hcA) hbX
  have hpO : SpansIn wX (.slice a1 n1 c1) params := SliceIn.later (SliceIn.of_owns hpA) hbX
  obtain ⟨f0, f1, f2, f3, f4⟩ := hfO
  have HX : Hid (FnAt wX w.heap.size s vp regs words vc ∧ FnAt wX wA.heap.size s (.slice a1 n1 c1) regs words (.slice a2 n2 c2) ∧ Below w.heap.size w wX ∧ CodeIn wX (.slice a2 n2 c2) code ∧ SpansIn wX (.slice a1 n1 c1) params) := ⟨hfS, ⟨f0, f1, f2, f3, f4⟩, hbw, hcO, hpO⟩
  have HwX := Lib.hid hwX
  clear hb0 hpA hcA hbA hbX hfS hbw hcO hpO hwX
  go_wp2_with fail
  rw [← HwX.out]
  refine (next_any s (.slice a1 n1 c1) regs words (.slice a2 n2 c2) code at' _ Hlen.out HX.out.2.2.2.1).mono ?_
  rintro e wB ⟨vl, rfl, hvl, hbB⟩
  obtain ⟨L, hL⟩ : ∃ L, L = nextL code at' := ⟨_, rfl⟩
  rw [← hL] at hvl
  have HL := Lib.hid hL
  have hfB := HX.out.1.later hbB (by omega)
  obtain ⟨g0, g1, g2, g3, g4⟩ := hfB
  have HB := Lib.hid (And.intro hvl hbB)
  clear hL hvl hbB f0 f1 f2 f3 f4
  go_wp2_with fail
  refine (rnext_any s vp regs words vc code at' _ Hlen.out (SliceIn.later Hc.out (HX.out.2.2.1.trans (HB.out.2.mono (by omega))))).mono ?_
  rintro e wC ⟨vw, rfl, hvw, hbC⟩
  rw [← HL.out] at hvw
  have hLI : LI wX wC vl vw L L := by
    refine ⟨HB.out.2.trans (hbC.mono HB.out.2.size), ownsRow_below HB.out.1 hbC (Nat.le_refl _), ownsRow_mono hvw HB.out.2.size, fun k hk h2 => ?_⟩
    have h3 := (World.ownsRow.lt HB.out.1 k hk).2
    have h4 := (World.ownsRow.lt hvw k h2).1
    omega
  have HLC := Lib.hid hLI
  clear hvw hbC hLI g0 g1 g2 g3 g4
  go_wp2_with fail
  refine (fixed_any _).mono ?_
  rintro e wD ⟨rfl, hbD⟩
  have HLD := Lib.hid (HLC.out.later hbD)
  have hll : L.length ≤ 2 := by rw [HL.out]; exact nextL_len _ _
  clear hbD HLC HB
  go_wp2_with fail
  refine (sameInts_true _ _ L _ (SliceIn.of_owns HLD.out.l) (SliceIn.of_owns HLD.out.want) (by omega)).mono ?_
  rintro e wE ⟨rfl, qE, rfl⟩
  have HLE := Lib.hid (HLD.out.later (below_draws wD qE))
  obtain ⟨wE, hwE⟩ : ∃ wE : World, wE = wD.drewN qE := ⟨_, rfl⟩
  rw [← hwE] at HLE ⊢
  clear hwE
  obtain ⟨al, cl, rfl, hal⟩ : ∃ al cl, vl = .slice al L.length cl ∧ (0 < L.length → ∃ g, al = some ⟨g, 0, none⟩) := by
    rcases HLE.out.l.form with ⟨h, h2⟩ | ⟨g, c, h, _⟩
    · exact ⟨none, 0, by rw [h, h2]; rfl, by rw [h2]; simp⟩
    · exact ⟨_, _, h, fun _ => ⟨g, rfl⟩⟩
  obtain ⟨nR, hnR⟩ : ∃ nR, nR = L.length := ⟨_, rfl⟩
  rw [← hnR] at hal HLE hll ⊢
  have HnR := Lib.hid hnR
  clear hnR HLD
  go_wp2_with fail
  go_loopg [8] nR (fun g i wr => ∃ k ll, k ≤ nR ∧ g = nR - k ∧ i = .int .i64 ((k : Nat) : Int) ∧ ll.length = nR ∧ LI wX wr (.slice al nR cl) vw ll L)
  case atStart => exact ⟨0, L, Nat.zero_le _, rfl, rfl, HnR.out.symm, HLE.out⟩
  case round =>
    obtain ⟨k, ll, hk, hg, rfl, hll', hLk⟩ := hrel
    have Hg := Lib.hid hg
    have HLk := Lib.hid hLk
    have Hll := Lib.hid hll'
    clear hg hLk hll' HLE
    by_cases hkn : k < nR
    · obtain ⟨gl, rfl⟩ := hal (by omega)
      have hck : wr.cell? ⟨gl, k, none⟩ = some (.int .i64 (ll.getD k 0)) := OwnInts.cell HLk.out.l (by rw [Hll.out]; exact hkn)
      have hfk : wr.frozen? ⟨gl, k, none⟩ = false := OwnInts.free HLk.out.l k
      have HN : Hid (∀ b : Int, LI wX (wr.setCell ⟨gl, k, none⟩ (.int .i64 b)) (.slice (some ⟨gl, 0, none⟩) nR cl) vw (ll.set k b) L) := fun b => HLk.out.store k b
      generalize ll.getD k 0 = y at hck
      go_wp2_with fail
      go_roundg (nR - (k + 1))
      case measure => have := Hg.out; omega
      case rel => exact ⟨k + 1, _, hkn, rfl, by go_num, by rw [List.length_set]; exact Hll.out, HN.out _⟩
    · have HL1 : Hid (OwnInts wr wX.heap.size (.slice al nR cl) ll) := HLk.out.l
      have Hll0 : Hid (ll.length ≤ 1000000000000) := by show _ ≤ _; rw [Hll.out]; omega
      have hs1 := HLk.out.below.size
      go_wp2_with (at_builtin; refine append_int rfl _ _ rfl wX.heap.size _ ll rfl HL1.out _ rfl Hll0.out hs1 ?_)
      intro v' w' ho' hgr hfr hbb
      have hbX : Below wX.heap.size wX w' := hbb _ _ HLk.out.below (Nat.le_refl _)
      have hw' := HLk.out.grown hgr
      have HF : Hid (Below wX.heap.size wX w' ∧ OwnInts w' wX.heap.size vw L) := ⟨hbX, hw'⟩
      obtain ⟨f0, f1, f2, f3, f4⟩ := HX.out.2.1.later hbX (by omega)
      clear ho' hgr hfr hbb hw' hbX HL1 Hll0
      go_wp2_with fail
      refine (next_any s (.slice a1 n1 c1) regs words (.slice a2 n2 c2) code at' _ Hlen.out (SliceIn.later HX.out.2.2.2.1 HF.out.1)).mono ?_
      rintro e wG ⟨vG, rfl, hG, hbG⟩
      rw [← HL.out] at hG
      have hbXG : Below wX.heap.size wX wG := HF.out.1.trans (hbG.mono HF.out.1.size)
      have HG : Hid (IntsIn wG vG L ∧ IntsIn wG vw L ∧ Below wX.heap.size wX wG) := ⟨SliceIn.of_owns hG, SliceIn.later (SliceIn.of_owns HF.out.2) hbG, hbXG⟩
      clear hG hbG hbXG f0 f1 f2 f3 f4
      have hl2 : L.length ≤ 1000000000000000 := by rw [← HnR.out]; omega
      have Hl2 := Lib.hid hl2
      clear hl2
      go_wp2_with fail
      refine (sameInts_true _ _ L _ HG.out.1 HG.out.2.1 Hl2.out).mono ?_
      rintro e wH ⟨rfl, qH, rfl⟩
      have hbH : Below wX.heap.size wX (wG.drewN qH) := below_drewN HG.out.2.2 _
      obtain ⟨wH, hwH⟩ : ∃ wH : World, wH = wG.drewN qH := ⟨_, rfl⟩
      rw [← hwH] at hbH ⊢
      clear hwH
      have hO := HX.out.2.1.later hbH (by omega)
      have hS := HX.out.1.later hbH (by omega)
      obtain ⟨f0, f1, f2, f3, f4⟩ := hO
      obtain ⟨g0, g1, g2, g3, g4⟩ := hS
      have HH := Lib.hid hbH
      have hz2 : wA.heap.size < wH.heap.size := by have := hbH.size; omega
      have hz1 : w.heap.size < wH.heap.size := by omega
      clear hbH
      go_wp2_with fail
      obtain ⟨WZ, hWZ⟩ : ∃ WZ : World, WZ = (wH.alloc (.cells #[.string s, .slice a1 n1 c1, .int .i64 regs, .int .i64 words, .slice a2 n2 c2] 25)).alloc (.cells #[.string s, vp, .int .i64 regs, .int .i64 words, vc] 25) := ⟨_, rfl⟩
      rw [← hWZ]
      have hbZ : Below wH.heap.size wH WZ := by rw [hWZ]; exact ((Below.refl _ _).alloc (Nat.le_refl _) _).alloc (by (try simp only [World.size_alloc]); (try simp only [size_set]); omega) _
      have hXZ : Below wX.heap.size wX WZ := HH.out.trans (hbZ.mono HH.out.size)
      have hwZ : Below w.heap.size w WZ := HX.out.2.2.1.trans (hXZ.mono (by omega))
      have hfa : FnAt WZ wH.heap.size s (.slice a1 n1 c1) regs words (.slice a2 n2 c2) := by
        rw [hWZ]; exact (FnAt.box wH s _ regs words _ _).later ((Below.refl (wH.heap.size + 1) _).alloc (by (try simp only [World.size_alloc]); (try simp only [size_set]); omega) _) (Nat.lt_succ_self _)
      have hfb : FnAt WZ (wH.heap.size + 1) s vp regs words vc := by
        have := FnAt.box (wH.alloc (.cells #[.string s, .slice a1 n1 c1, .int .i64 regs, .int .i64 words, .slice a2 n2 c2] 25)) s vp regs words vc 25
        rw [hWZ]; simpa using this
      have hzz : wH.heap.size + 2 ≤ WZ.heap.size := by rw [hWZ]; simp
      have hcz : CodeIn WZ (.slice a2 n2 c2) code := SliceIn.later HX.out.2.2.2.1 hXZ
      have hpz : SpansIn WZ (.slice a1 n1 c1) params := SliceIn.later HX.out.2.2.2.2 hXZ
      have HwZ := Lib.hid hwZ
      clear hWZ f0 f1 f2 f3 f4 g0 g1 g2 g3 g4
      refine (same_true s (.slice a1 n1 c1) vp regs words (.slice a2 n2 c2) vc params code WZ Hlen.out Hplen.out hcz hpz (SliceIn.later Hc.out hwZ) (SliceIn.later Hp.out hwZ) _ _ hfa hfb (by omega) (by omega)).mono ?_
      rintro e wK ⟨rfl, hbK⟩
      have HbK := Lib.hid hbK
      clear hbZ hXZ hwZ hfa hfb hcz hpz hbK
      go_wp2_with fail
      go_ret
      exact ⟨rfl, HwZ.out.trans (HbK.out.mono (by omega))⟩
end Go.Proofs.Ytggkeodoenhmoaa
