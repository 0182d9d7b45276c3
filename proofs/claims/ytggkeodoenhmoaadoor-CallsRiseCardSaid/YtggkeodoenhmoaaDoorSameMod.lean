/- Same of the reference, of modules: two that hold the same. -/
import Derived.Test.YtggkeodoenhmoaaDoorCopyMod
namespace Go.Proofs.YtggkeodoenhmoaaDoor
open Go.RowKit

set_option maxRecDepth 100000 in
set_option maxHeartbeats 2000000 in
theorem sameMod_true (vt vf vt' vf' : Value) (ts : List Int) (F F' : List FR) (w : World) (hm : ModIn w vt vf ts F) (hm' : ModIn w vt' vf' ts F') (hp : F'.map FR.plain = F.map FR.plain) :
    Calls Tryd.prog 9 #[modV vt vf, modV vt' vf'] w (Gives (.bool true) w) := by
  have hFl : F'.length = F.length := by simpa using congrArg List.length hp
  obtain ⟨-, af, cf, hvf, -⟩ := hm.funcs.row
  obtain ⟨-, at', ct, hvt, -⟩ := hm.thr
  obtain ⟨-, af2, cf2, hvf2, -⟩ := hm'.funcs.row
  obtain ⟨-, at2, ct2, hvt2, -⟩ := hm'.thr
  subst hvf; subst hvt; subst hvf2; subst hvt2
  rw [hFl] at hm' ⊢
  obtain ⟨nF, hnF⟩ : ∃ nF, nF = F.length := ⟨_, rfl⟩
  obtain ⟨nT, hnT⟩ : ∃ nT, nT = ts.length := ⟨_, rfl⟩
  have hnf := hm.funcs.nFuncs
  have hnt := hm.nThr
  rw [← hnF] at hm hm' hnf ⊢
  rw [← hnT] at hm hm' hnt ⊢
  obtain ⟨W1, hW1⟩ : ∃ W1 : World, W1 = (w.alloc (.cells #[.slice at' nT ct, .slice af nF cf] 25)).alloc (.cells #[.slice at2 nT ct2, .slice af2 nF cf2] 25) := ⟨_, rfl⟩
  have hb1 : Below w.heap.size w W1 := by rw [hW1]; exact ((Below.refl _ _).alloc (Nat.le_refl _) _).alloc (by (try simp only [World.size_alloc]); (try simp only [size_set]); omega) _
  have hx1 : ModAt W1 w.heap.size (.slice at' nT ct) (.slice af nF cf) := by rw [hW1]; exact (ModAt.box w _ _ _).later ((Below.refl (w.heap.size + 1) _).alloc (by (try simp only [World.size_alloc]); (try simp only [size_set]); omega) _) (Nat.lt_succ_self _)
  have hx2 : ModAt W1 (w.heap.size + 1) (.slice at2 nT ct2) (.slice af2 nF cf2) := by
    rw [hW1]
    have := ModAt.box (w.alloc (.cells #[.slice at' nT ct, .slice af nF cf] 25)) (.slice at2 nT ct2) (.slice af2 nF cf2) 25
    simpa using this
  have hsz : w.heap.size + 2 = W1.heap.size := by rw [hW1]; simp
  have hM1 := hm.later hb1
  have hM2 := hm'.later hb1
  have HW1 := Lib.hid hW1
  have H1 := Lib.hid (And.intro hb1 (And.intro hx1 (And.intro hx2 (And.intro hM1 (And.intro hM2 hp)))))
  have Hl := Lib.hid (And.intro hnF (And.intro hnT hFl))
  have hsl : w.heap.size + 2 ≤ W1.heap.size := by omega
  clear hW1 hb1 hx1 hx2 hM1 hM2 hm hm' hp hnF hnT hFl hsz
  go_enter Tryd.func9, Tryd.ntmps9
  go_wp2_with fail
  rw [← HW1.out]
  go_loopw [5] (fun i wr => ∃ k : Nat, k ≤ nT ∧ i = .int .i64 k ∧ ∃ q, wr = W1.drewN q) (fun i _ => nT - (intOf i).toNat)
  case atStart => exact ⟨0, Nat.zero_le _, rfl, 0, rfl⟩
  case round =>
    obtain ⟨k, hk, rfl, q, rfl⟩ := hrel
    obtain ⟨m0, m1⟩ := H1.out.2.1
    obtain ⟨n0, n1⟩ := H1.out.2.2.1
    by_cases hkn : k < nT
    · have h1 := H1.out.2.2.2.1.thr
      have h2 := H1.out.2.2.2.2.1.thr
      obtain ⟨b1, o1, rfl, hb1, hc1⟩ := IntsIn.cell h1 (k := k) (by rw [← Hl.out.2.1]; exact hkn)
      obtain ⟨b2, o2, rfl, hb2, hc2⟩ := IntsIn.cell h2 (k := k) (by rw [← Hl.out.2.1]; exact hkn)
      clear h1 h2
      generalize ts.getD k 0 = y at *
      go_wp2_with (go_quiet (fail))
      go_roundw
      case rel => exact ⟨k + 1, by omega, by go_num, _, rfl⟩
      case measure => simp [intOf]; omega
    · have ek : k = nT := by omega
      subst ek
      go_wp2_with fail
      go_loopw [6] (fun i wx => ∃ k : Nat, k ≤ nF ∧ i = .int .i64 k ∧ Below W1.heap.size W1 wx) (fun i _ => nF - (intOf i).toNat)
      case atStart => exact ⟨0, Nat.zero_le _, rfl, below_drewN (Below.refl _ _) _⟩
      case round =>
        obtain ⟨j, hj, rfl, hb⟩ := hrel
        have r1 := (hb.cell (p := ⟨w.heap.size, 1, none⟩) (by show w.heap.size < _; omega)).trans m1
        have r2 := (hb.cell (p := ⟨w.heap.size + 1, 1, none⟩) (by show w.heap.size + 1 < _; omega)).trans n1
        by_cases hjn : j < nF
        · have hM1 := H1.out.2.2.2.1.later hb
          have hM2 := H1.out.2.2.2.2.1.later hb
          obtain ⟨x, hx⟩ : ∃ x, F[j]? = some x := ⟨F[j]'(by rw [← Hl.out.1]; exact hjn), List.getElem?_eq_getElem _⟩
          obtain ⟨y, hy⟩ : ∃ y, F'[j]? = some y := ⟨F'[j]'(by rw [Hl.out.2.2, ← Hl.out.1]; exact hjn), List.getElem?_eq_getElem _⟩
          have hxy : y.plain = x.plain := by
            have := congrArg (fun l => l[j]?) H1.out.2.2.2.2.2
            simpa [hx, hy] using this
          obtain ⟨-, b1, o1, rfl, hb1, p0, p1, p2, p3, p4⟩ := hM1.funcs.at hx
          obtain ⟨-, b2, o2, rfl, hb2, q0, q1, q2, q3, q4⟩ := hM2.funcs.at hy
          obtain ⟨hc, hp, hlc, hlp⟩ := hM1.funcs.each x (List.mem_of_getElem? hx)
          obtain ⟨hc', hp', -, -⟩ := hM2.funcs.each y (List.mem_of_getElem? hy)
          obtain ⟨s, vp, regs, words, vc, params, code⟩ := x
          obtain ⟨s', vp', regs', words', vc', params', code'⟩ := y
          simp only [FR.plain, Prod.mk.injEq] at hxy
          obtain ⟨rfl, rfl, rfl, rfl, rfl⟩ := hxy
          simp only at *
          have HdC1 : Hid (CodeIn wr.drew vc code') := SliceIn.later hc (Below.refl _ _).drew
          have HdC2 : Hid (CodeIn wr.drew vc' code') := SliceIn.later hc' (Below.refl _ _).drew
          have HdP1 : Hid (SpansIn wr.drew vp params') := SliceIn.later hp (Below.refl _ _).drew
          have HdP2 : Hid (SpansIn wr.drew vp' params') := SliceIn.later hp' (Below.refl _ _).drew
          have Hlc := Lib.hid (And.intro hlc hlp)
          have Hb := Lib.hid hb
          have hdr : wr.drew.heap.size = wr.heap.size := rfl
          obtain ⟨-, a3, c3, rfl, -⟩ := hc
          obtain ⟨-, a4, c4, rfl, -⟩ := hc'
          obtain ⟨-, a5, c5, rfl, -⟩ := hp
          obtain ⟨-, a6, c6, rfl, -⟩ := hp'
          clear hM1 hM2 hb hlc hlp hx hy hdr
          go_wp2_with fail
          go_still_tail 10, (by kernel_rfl)
          change wpList _ _ _ _ _ wr.drew
          go_wp2_with fail
          refine (sameFunc_true s' _ _ regs' words' _ _ params' code' _ Hlc.out.1 Hlc.out.2 HdC1.out HdP1.out HdC2.out HdP2.out).mono ?_
          rintro e w2 ⟨rfl, hb2⟩
          have Hb2 : Hid (Below W1.heap.size W1 w2) := Hb.out.trans (((Below.refl _ _).drew.trans hb2).mono Hb.out.size)
          clear hb2
          go_wp2_with fail
          go_roundw
          case rel => exact ⟨j + 1, by omega, by go_num, Hb2.out⟩
          case measure => simp [intOf]; omega
        · have ej : j = nF := by omega
          subst ej
          have Hb := Lib.hid hb
          clear hb
          go_wp2_with fail
          go_ret
          exact ⟨rfl, H1.out.1.trans (Hb.out.mono (by omega))⟩
end Go.Proofs.YtggkeodoenhmoaaDoor
