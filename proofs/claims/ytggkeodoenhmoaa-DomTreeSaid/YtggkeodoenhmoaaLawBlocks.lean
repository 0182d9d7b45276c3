/- The statement FlowBlocks' walk: of every function it answers true and leaves what was there. -/
import Derived.Test.YtggkeodoenhmoaaRBlocks
import Derived.Test.YtggkeodoenhmoaaLawReach
namespace Go.Proofs.Ytggkeodoenhmoaa
open Go.RowKit

theorem blocksL_le (code : List Ins) : (blocksL code).length ≤ 1024 := by
  unfold blocksL
  refine Nat.le_trans (blocksTo_le _ _ _ _) ?_
  rw [reachL_length]; split
  · rename_i h; simp [hasB] at h; exact h.2
  · omega

structure LRI (w wr : World) (s : ByteArray) (vp : Value) (regs words : Int) (vc vl vw : Value) (ll can : List Int) : Prop where
  fn : FnAt wr w.heap.size s vp regs words vc
  below : Below w.heap.size w wr
  l : OwnInts wr (w.heap.size + 1) vl ll
  want : OwnInts wr (w.heap.size + 1) vw can
  apart : ∀ k, vl.ownBlock = some k → vw.ownBlock ≠ some k
  size : w.heap.size + 1 ≤ wr.heap.size

theorem LRI.later {w wr w' : World} {s : ByteArray} {vp : Value} {regs words : Int} {vc vl vw : Value} {ll can : List Int} (h : LRI w wr s vp regs words vc vl vw ll can) (hb : Below wr.heap.size wr w') : LRI w w' s vp regs words vc vl vw ll can :=
  have hs := h.size
  ⟨h.fn.later hb (by omega), h.below.trans (hb.mono (by omega)), ownsRow_below h.l hb (Nat.le_refl _), ownsRow_below h.want hb (Nat.le_refl _), h.apart, Nat.le_trans h.size hb.size⟩

set_option maxRecDepth 100000 in
set_option maxHeartbeats 2000000 in
theorem lawBlocks_any (s : ByteArray) (vp : Value) (regs words : Int) (vc : Value) (code : List Ins) (w : World) (hlen : code.length * 40 ≤ 140737488351232) (hc : CodeIn w vc code) :
    Calls Try.prog 6 #[fnV s vp regs words vc] w (Gives (.bool true) w) := by
  have Hlen := Lib.hid hlen
  have Hc := Lib.hid hc
  clear hlen hc
  go_enter Try.func6, Try.ntmps6
  go_wp2_with fail
  have hc1 : CodeIn (w.alloc (.cells #[.string s, vp, .int .i64 regs, .int .i64 words, vc] 25)) vc code := SliceIn.later Hc.out ((Below.refl _ _).alloc (Nat.le_refl _) _)
  refine (blocks_any s vp regs words vc code _ Hlen.out hc1).mono ?_
  rintro e wA ⟨vl, rfl, hvl, hbA⟩
  have hbwA : Below w.heap.size w wA := ((Below.refl _ _).alloc (Nat.le_refl _) _).trans (hbA.mono (by simp))
  have hfA : FnAt wA w.heap.size s vp regs words vc := (FnAt.box w s vp regs words vc _).later hbA (by simp)
  have hszA : w.heap.size + 1 ≤ wA.heap.size := by have := hbA.size; simpa using this
  have hcA : CodeIn wA vc code := SliceIn.later Hc.out hbwA
  obtain ⟨can, hcan⟩ : ∃ can, can = blocksL code := ⟨_, rfl⟩
  have Hcan := Lib.hid hcan
  rw [← hcan] at hvl
  obtain ⟨f0, f1, f2, f3, f4⟩ := hfA
  have HA := Lib.hid (And.intro hvl (And.intro hbwA hcA))
  have HfA : Hid (FnAt wA w.heap.size s vp regs words vc) := ⟨f0, f1, f2, f3, f4⟩
  clear hc1 hvl hbA hbwA hcA hcan
  go_wp2_with fail
  refine (rblocks_any s vp regs words vc code _ Hlen.out HA.out.2.2).mono ?_
  rintro e wB ⟨vw, rfl, hvw, hbB⟩
  rw [← Hcan.out] at hvw
  have hLR : LRI w wB s vp regs words vc vl vw can can := by
    refine ⟨HfA.out.later hbB (by omega), HA.out.2.1.trans (hbB.mono (by omega)), ownsRow_mono (ownsRow_below HA.out.1 hbB (Nat.le_refl _)) (by simp), ownsRow_mono hvw (by omega), ?_, by have := hbB.size; omega⟩
    intro k hk h2
    have h3 := (World.ownsRow.lt HA.out.1 k hk).2
    have h4 := (World.ownsRow.lt hvw k h2).1
    omega
  have HLB := Lib.hid hLR
  clear hvw hbB hLR f0 f1 f2 f3 f4
  go_wp2_with fail
  refine (fixed_any _).mono ?_
  rintro e wC ⟨rfl, hbC⟩
  have HLC := Lib.hid (HLB.out.later hbC)
  clear hbC HLB
  have hcl : can.length ≤ 1024 := by
    rw [Hcan.out]; exact blocksL_le code
  go_wp2_with fail
  refine (sameInts_true _ _ can _ (SliceIn.of_owns HLC.out.l) (SliceIn.of_owns HLC.out.want) (by omega)).mono ?_
  rintro e wD ⟨rfl, qD, rfl⟩
  have HLD := Lib.hid (HLC.out.later (below_draws wC qD))
  obtain ⟨wD, hwD⟩ : ∃ wD : World, wD = wC.drewN qD := ⟨_, rfl⟩
  rw [← hwD] at HLD ⊢
  clear hwD
  obtain ⟨al, cl, rfl, hal⟩ : ∃ al cl, vl = .slice al can.length cl ∧ (0 < can.length → ∃ g, al = some ⟨g, 0, none⟩) := by
    rcases HLD.out.l.form with ⟨h, h2⟩ | ⟨g, c, h, _⟩
    · exact ⟨none, 0, by rw [h, h2]; rfl, by rw [h2]; simp⟩
    · exact ⟨_, _, h, fun _ => ⟨g, rfl⟩⟩
  obtain ⟨nR, hnR⟩ : ∃ nR, nR = can.length := ⟨_, rfl⟩
  rw [← hnR] at hal HLD hcl ⊢
  have HnR := Lib.hid hnR
  clear hnR HLC
  go_wp2_with fail
  go_loopg [5] nR (fun g i wr => ∃ k ll, k ≤ nR ∧ g = nR - k ∧ i = .int .i64 ((k : Nat) : Int) ∧ ll.length = nR ∧ LRI w wr s vp regs words vc (.slice al nR cl) vw ll can)
  case atStart => exact ⟨0, can, Nat.zero_le _, rfl, rfl, HnR.out.symm, HLD.out⟩
  case round =>
    obtain ⟨k, ll, hk, hg, rfl, hll, hL⟩ := hrel
    have Hg := Lib.hid hg
    have HL := Lib.hid hL
    have Hll := Lib.hid hll
    clear hg hL hll HLD
    by_cases hkn : k < nR
    · obtain ⟨gl, rfl⟩ := hal (by omega)
      have hck : wr.cell? ⟨gl, k, none⟩ = some (.int .i64 (ll.getD k 0)) := OwnInts.cell HL.out.l (by rw [Hll.out]; exact hkn)
      have hfk : wr.frozen? ⟨gl, k, none⟩ = false := OwnInts.free HL.out.l k
      have hnext : ∀ b : Int, LRI w (wr.setCell ⟨gl, k, none⟩ (.int .i64 b)) s vp regs words vc (.slice (some ⟨gl, 0, none⟩) nR cl) vw (ll.set k b) can := fun b => by
        have hgl := (World.ownsRow.lt HL.out.l gl rfl).1
        exact ⟨HL.out.fn.later ((Below.refl (w.heap.size + 1) _).setCell hgl _) (by omega), HL.out.below.setCell (by show w.heap.size ≤ gl; omega) _, OwnInts.store HL.out.l k b, ownsRow_setCell_other HL.out.want (HL.out.apart gl rfl) _, HL.out.apart, by rw [size_set]; exact HL.out.size⟩
      have HN := Lib.hid hnext
      clear hnext
      generalize ll.getD k 0 = y at hck
      go_wp2_with fail
      go_roundg (nR - (k + 1))
      case measure => have := Hg.out; omega
      case rel => exact ⟨k + 1, _, hkn, rfl, by go_num, by rw [List.length_set]; exact Hll.out, HN.out _⟩
    · have HL1 := HL.out.l
      have hll0 : ll.length ≤ 1000000000000 := by rw [Hll.out]; omega
      have HL1 := Lib.hid HL1
      have Hll0 := Lib.hid hll0
      have hs1 := HL.out.size
      clear hll0
      go_wp2_with (at_builtin; refine append_int rfl _ _ rfl (w.heap.size + 1) _ ll rfl HL1.out _ rfl Hll0.out hs1 ?_)
      intro v' w' ho' hgr hfr hbb
      have hsw := hgr.size
      simp only [World.size_alloc] at hsw
      have hfn' : FnAt w' w.heap.size s vp regs words vc := HL.out.fn.later (hbb (w.heap.size + 1) wr (Below.refl _ _) (Nat.le_refl _)) (by omega)
      have hbl' : Below w.heap.size w w' := hbb _ _ HL.out.below (by omega)
      have hwant' : OwnInts w' (w.heap.size + 1) vw can := (World.ownsRow.alloc HL.out.want _).kept hgr (by
        cases h : (Value.slice al nR cl).ownBlock with
        | none =>
          rcases HL.out.want.form with ⟨h2, _⟩ | ⟨g, c, h2, _⟩
          · left; rw [h2]; rfl
          · right; rw [h2]; simp [Value.ownBlock]
        | some g => right; exact HL.out.apart g h)
      have hcode' : CodeIn w' vc code := SliceIn.later Hc.out hbl'
      obtain ⟨f0, f1, f2, f3, f4⟩ := hfn'
      have HF' : Hid (FnAt w' w.heap.size s vp regs words vc) := ⟨f0, f1, f2, f3, f4⟩
      have HB' := Lib.hid hbl'
      have HW' := Lib.hid hwant'
      have HC' := Lib.hid hcode'
      clear ho' hgr hfr hbb hbl' hwant' hcode'
      go_wp2_with fail
      refine (blocks_any s vp regs words vc code _ Hlen.out HC'.out).mono ?_
      rintro e wE ⟨vE, rfl, hE, hbE⟩
      rw [← Hcan.out] at hE
      have HE : Hid (IntsIn wE vE can) := SliceIn.of_owns hE
      have HWE : Hid (IntsIn wE vw can) := SliceIn.later (SliceIn.of_owns HW'.out) hbE
      have HBE : Hid (Below w.heap.size w wE) := HB'.out.trans (hbE.mono (by omega))
      have hcl2 : can.length ≤ 1024 := by rw [← HnR.out]; exact hcl
      have Hcl2 := Lib.hid hcl2
      clear hE hbE f0 f1 f2 f3 f4 hcl2
      go_wp2_with fail
      refine (sameInts_true _ _ can _ HE.out HWE.out (by have := Hcl2.out; omega)).mono ?_
      rintro e wF ⟨rfl, qF, rfl⟩
      go_wp2_with fail
      go_ret
      exact ⟨rfl, below_drewN HBE.out _⟩
end Go.Proofs.Ytggkeodoenhmoaa
