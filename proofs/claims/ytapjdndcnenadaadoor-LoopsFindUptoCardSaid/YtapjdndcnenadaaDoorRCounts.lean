/- The reference's counts: does a loop? Else what is wrong first. -/
import Derived.Test.YtapjdndcnenadaaDoorCounts
import Derived.BigRegion
namespace Go.Proofs.YtapjdndcnenadaaDoor
open Go.RowKit

/-- The marks of those from where back edges go, as far as the first k say. -/
def MarkIs (n : Nat) (backs : List Int) (k : Nat) (bl : List Bool) : Prop := bl.length = n ∧ ∀ b : Nat, b < n → bl.getD b false = decide ((b : Int) ∈ backs.take k)
theorem MarkIs.zero (n : Nat) (backs : List Int) : MarkIs n backs 0 (List.replicate n false) := ⟨by simp, fun b hb => by simp [List.getD, hb]⟩
theorem MarkIs.next {n : Nat} {backs : List Int} {k : Nat} {bl : List Bool} (h : MarkIs n backs k bl) {u : Nat} (hu : backs[k]? = some (u : Int)) : MarkIs n backs (k + 1) (bl.set u true) := by
  refine ⟨by rw [List.length_set]; exact h.1, fun b hb => ?_⟩
  rw [List.take_add_one, hu, List.getD_eq_getElem?_getD, List.getElem?_set]
  by_cases e : u = b
  · subst e; rw [if_pos rfl, if_pos (by rw [h.1]; exact hb)]; simp
  · have e' : ¬ (b : Int) = (u : Int) := by omega
    rw [if_neg e, ← List.getD_eq_getElem?_getD, h.2 b hb]; simp [e']

/-- The three boxes that this function makes. -/
structure RC (w W : World) (s : ByteArray) (vp : Value) (regs words : Int) (vc : Value) (head : Int) (vm vb : Value) (c : Ins) : Prop where
  fn : FnAt W w.heap.size s vp regs words vc
  l0 : W.cell? ⟨w.heap.size + 1, 0, none⟩ = some (.int .i64 head)
  l2 : W.cell? ⟨w.heap.size + 1, 2, none⟩ = some vm
  l3 : W.cell? ⟨w.heap.size + 1, 3, none⟩ = some vb
  c0 : W.cell? ⟨w.heap.size + 2, 0, none⟩ = some (.int .i64 c.op)
  c1 : W.cell? ⟨w.heap.size + 2, 1, none⟩ = some (.int .i64 c.a)
  c2 : W.cell? ⟨w.heap.size + 2, 2, none⟩ = some (.int .i64 c.b)
  c4 : W.cell? ⟨w.heap.size + 2, 4, none⟩ = some (.int .i64 c.n)
  below : Below w.heap.size w W
  size : w.heap.size + 3 ≤ W.heap.size
theorem RC.start (w : World) (s : ByteArray) (vp : Value) (regs words : Int) (vc : Value) (head parent : Int) (vm vb : Value) (op a b c n : Int) :
    RC w (((w.alloc (.cells #[.string s, vp, .int .i64 regs, .int .i64 words, vc] 25)).alloc (.cells #[.int .i64 head, .int .i64 parent, vm, vb] 40)).alloc (.cells #[.int .i64 op, .int .i64 a, .int .i64 b, .int .i64 c, .int .i64 n] 52)) s vp regs words vc head vm vb ⟨op, a, b, c, n⟩ := by
  have h := CN.start w s vp regs words vc head parent vm vb op a b c n
  obtain ⟨W, hW⟩ : ∃ W, W = ((w.alloc (.cells #[.string s, vp, .int .i64 regs, .int .i64 words, vc] 25)).alloc (.cells #[.int .i64 head, .int .i64 parent, vm, vb] 40)).alloc (.cells #[.int .i64 op, .int .i64 a, .int .i64 b, .int .i64 c, .int .i64 n] 52) := ⟨_, rfl⟩
  rw [← hW] at h ⊢
  have hs : W.heap.size = w.heap.size + 3 := by rw [hW]; simp
  have k : ∀ b j : Nat, b < w.heap.size + 3 → (W.alloc (.map #[] 0)).cell? ⟨b, j, none⟩ = W.cell? ⟨b, j, none⟩ := fun b j hp => World.cell?_alloc_past _ _ _ (by rw [hs]; exact hp)
  refine ⟨⟨?_, ?_, ?_, ?_, ?_⟩, ?_, ?_, ?_, ?_, ?_, ?_, ?_, ?_, by omega⟩
  · rw [← k _ _ (by omega)]; exact h.fn.c0
  · rw [← k _ _ (by omega)]; exact h.fn.c1
  · rw [← k _ _ (by omega)]; exact h.fn.c2
  · rw [← k _ _ (by omega)]; exact h.fn.c3
  · rw [← k _ _ (by omega)]; exact h.fn.c4
  · rw [← k _ _ (by omega)]; exact h.l0
  · rw [← k _ _ (by omega)]; exact h.l2
  · rw [← k _ _ (by omega)]; exact h.l3
  · rw [← k _ _ (by omega)]; exact h.c0
  · rw [← k _ _ (by omega)]; exact h.c1
  · rw [← k _ _ (by omega)]; exact h.c2
  · rw [← k _ _ (by omega)]; exact h.c4
  · exact Below.mono (B := w.heap.size) (by rw [hW]; exact (((Below.refl w.heap.size w).alloc (Nat.le_refl _) _).alloc (by simp) _).alloc (by simp; omega) _) (Nat.le_refl _)
theorem RC.keep {w W W' : World} {s : ByteArray} {vp : Value} {regs words : Int} {vc : Value} {head : Int} {vm vb : Value} {c : Ins} (h : RC w W s vp regs words vc head vm vb c) (hb : Below (w.heap.size + 3) W W') : RC w W' s vp regs words vc head vm vb c := by
  have k : ∀ p : Addr, p.block < w.heap.size + 3 → W'.cell? p = W.cell? p := fun p hp => hb.cell hp
  exact ⟨⟨(k ⟨w.heap.size, 0, none⟩ (by show w.heap.size < _; omega)).trans h.fn.c0, (k ⟨w.heap.size, 1, none⟩ (by show w.heap.size < _; omega)).trans h.fn.c1, (k ⟨w.heap.size, 2, none⟩ (by show w.heap.size < _; omega)).trans h.fn.c2, (k ⟨w.heap.size, 3, none⟩ (by show w.heap.size < _; omega)).trans h.fn.c3, (k ⟨w.heap.size, 4, none⟩ (by show w.heap.size < _; omega)).trans h.fn.c4⟩,
    (k ⟨w.heap.size + 1, 0, none⟩ (by show w.heap.size + 1 < _; omega)).trans h.l0, (k ⟨w.heap.size + 1, 2, none⟩ (by show w.heap.size + 1 < _; omega)).trans h.l2, (k ⟨w.heap.size + 1, 3, none⟩ (by show w.heap.size + 1 < _; omega)).trans h.l3,
    (k ⟨w.heap.size + 2, 0, none⟩ (by show w.heap.size + 2 < _; omega)).trans h.c0, (k ⟨w.heap.size + 2, 1, none⟩ (by show w.heap.size + 2 < _; omega)).trans h.c1, (k ⟨w.heap.size + 2, 2, none⟩ (by show w.heap.size + 2 < _; omega)).trans h.c2, (k ⟨w.heap.size + 2, 4, none⟩ (by show w.heap.size + 2 < _; omega)).trans h.c4,
    h.below.trans (hb.mono (by omega)), Nat.le_trans h.size hb.size⟩

set_option maxRecDepth 100000 in
set_option maxHeartbeats 8000000 in
theorem rcounts_any (s : ByteArray) (vp : Value) (regs words : Int) (vc : Value) (code : List Ins) (head parent : Int) (vm vb : Value) (mem backs : List Int) (w : World) (hc : CodeIn w vc code) (hm : IntsIn w vm mem) (hb : IntsIn w vb backs)
    (hn1 : code.length ≤ 1024) (hh : 0 ≤ head ∧ head < code.length) (hmr : ∀ u ∈ mem, 0 ≤ u ∧ u < code.length) (hbr : ∀ u ∈ backs, 0 ≤ u ∧ u < code.length) (hml : mem.length ≤ 4000) (hbl : backs.length ≤ 4000) :
    Calls Tryd.prog 28 #[fnV s vp regs words vc, loopVal head parent vm vb] w (Gives (.tuple #[.int .i64 (countsOf code head mem backs).1, .int .i64 (countsOf code head mem backs).2]) w) := by
  obtain ⟨hh0, hh1⟩ := hh
  obtain ⟨head, rfl⟩ := Int.eq_ofNat_of_zero_le hh0
  have hhl : head < code.length := by omega
  have hc0 := hc
  obtain ⟨-, ac, cc, rfl, -, -, -, hac⟩ := hc0
  obtain ⟨g, off, rfl, hg, -⟩ := hac (by omega)
  obtain ⟨h0, h1, h2, h3, h4⟩ := ins_cells hc hhl
  have hm0 := hm
  have hb0 := hb
  obtain ⟨-, am, cm, rfl, -, -, -, ham⟩ := hm0
  obtain ⟨-, ab, cb, rfl, -, -, -, hab⟩ := hb0
  obtain ⟨n, hn⟩ : ∃ n, n = code.length := ⟨_, rfl⟩
  obtain ⟨nm, hnm⟩ : ∃ nm, nm = mem.length := ⟨_, rfl⟩
  obtain ⟨nb, hnb⟩ : ∃ nb, nb = backs.length := ⟨_, rfl⟩
  rw [← hn] at hn1 hhl hc hmr hbr ⊢
  rw [← hnm] at hml ham hm ⊢
  rw [← hnb] at hbl hab hb ⊢
  obtain ⟨c, hcd⟩ : ∃ c, c = insAt code head := ⟨_, rfl⟩
  rw [← hcd] at h0 h1 h2 h3 h4
  have Hc := Lib.hid hc
  have Hm := Lib.hid hm
  have Hb := Lib.hid hb
  have Hn := Lib.hid (And.intro hn (And.intro hnm hnb))
  have Hr := Lib.hid (And.intro hmr hbr)
  have Hcd := Lib.hid hcd
  have Hab := Lib.hid hab
  have Ham := Lib.hid ham
  obtain ⟨cop, ca, cb', ccc, cn⟩ := c
  simp only at h0 h1 h2 h3 h4
  have hmk := fun w => make_bools_run n (by omega) w
  obtain ⟨W3, hW3⟩ : ∃ W3, W3 = ((w.alloc (.cells #[.string s, vp, .int .i64 regs, .int .i64 words, .slice (some ⟨g, off, none⟩) n cc] 25)).alloc (.cells #[.int .i64 (head : Int), .int .i64 parent, .slice am nm cm, .slice ab nb cb] 40)).alloc (.cells #[.int .i64 cop, .int .i64 ca, .int .i64 cb', .int .i64 ccc, .int .i64 cn] 52) := ⟨_, rfl⟩
  have hRC := RC.start w s vp regs words (.slice (some ⟨g, off, none⟩) n cc) (head : Int) parent (.slice am nm cm) (.slice ab nb cb) cop ca cb' ccc cn
  rw [← hW3] at hRC
  have hs3 : W3.heap.size = w.heap.size + 3 := by rw [hW3]; simp
  have hbeen : OwnBools (W3.alloc (.cells (zeroBools n) 4)) (w.heap.size + 3) (.slice (some ⟨w.heap.size + 3, 0, none⟩) n n) (List.replicate n false) := by
    have h := owns_zeroBools W3 (B := w.heap.size + 3) n (by omega) (by omega)
    rw [hs3] at h
    exact h
  have HRC := Lib.hid hRC
  have HW3 := Lib.hid hW3
  have Hs3 := Lib.hid hs3
  have Hbeen := Lib.hid hbeen
  have c0 := hRC.c0
  have l0 := hRC.l0
  have hfc := hRC.fn.c4
  have hlt3 : w.heap.size + 2 < W3.heap.size := by omega
  clear hc hm hb hn hnm hnb hmr hbr hcd hh0 hh1 hab ham hac hRC hW3 hs3 hbeen
  by_cases hop : cop = 17
  · have hq : (cop != 17) = false := by simp [hop]
    have HopI : Hid ((insAt code (head : Int)).op = 17) := by show _ = _; rw [← Hcd.out]; exact hop
    clear hop
    go_enter Tryd.func28, Tryd.ntmps28
    go_upto_region 4 with (fail)
    rw [← HW3.out]
    go_wp2_with fail
    rw [Hs3.out]
    clear hmk c0 l0 h0 h1 h2 h3 h4 hfc hlt3 hq
    obtain ⟨D, hD⟩ : ∃ D, D = w.heap.size + 3 := ⟨_, rfl⟩
    have Hbe : Hid (OwnBools (W3.alloc (.cells (zeroBools n) 4)) D (.slice (some ⟨D, 0, none⟩) n n) (List.replicate n false)) := by rw [hD]; exact Hbeen.out
    have HD := Lib.hid hD
    rw [← hD]
    clear hD Hbeen
    go_loopg [8, 9] nb (fun g kv _ wx => ∃ (k : Nat) (bl : List Bool), g = nb - k ∧ kv = .int .i64 (k : Int) ∧ k ≤ nb ∧ MarkIs n backs k bl ∧ OwnBools wx D (.slice (some ⟨D, 0, none⟩) n n) bl ∧ (∀ (j : Nat) v, j < k → backs[j]? = some v → badBack code (insAt code (head : Int)) v = false) ∧ Below D W3 wx)
    case atStart => exact ⟨0, _, rfl, rfl, Nat.zero_le _, MarkIs.zero n backs, Hbe.out, fun j v h => by omega, (Below.refl _ _).alloc (by rw [HD.out, Hs3.out]; exact Nat.le_refl _) _⟩
    case round =>
      obtain ⟨k, bl, hg', rfl, hk, hM, hB, hno, hbl'⟩ := hrel
      have hCk := HRC.out.keep (by rw [← HD.out]; exact hbl')
      obtain ⟨f0, f1, f2, f3, f4⟩ := hCk.fn
      have c0 := hCk.c0
      have c1 := hCk.c1
      have l3 := hCk.l3
      simp only at c0 c1
      have hbw := hCk.below
      have hDw := (World.ownsRow.lt hB D rfl).2
      have HG := Lib.hid hg'
      have HM := Lib.hid (And.intro hM (And.intro hB (And.intro hno hbl')))
      have HCk := Lib.hid hCk
      clear hg' hM hB hno hbl' hCk f0 f1 f2 f3
      by_cases hkn : k < nb
      · obtain ⟨gb, ob, rfl, hgb, hcb⟩ := Hab.out (by omega)
        obtain ⟨u, hu⟩ : ∃ u, backs[k]? = some u := ⟨_, List.getElem?_eq_getElem (by rw [← Hn.out.2.2]; exact hkn)⟩
        have hur := Hr.out.2 u (List.mem_of_getElem? hu)
        obtain ⟨hu0, hun⟩ := hur
        obtain ⟨u, rfl⟩ := Int.eq_ofNat_of_zero_le hu0
        have huN : u < n := by omega
        have hcu : wr.cell? ⟨gb, ob + k, none⟩ = some (.int .i64 (u : Int)) := (hbw.cell (p := ⟨gb, ob + k, none⟩) hgb).trans (hcb k _ (by simp [intVs, hu]))
        obtain ⟨i0, i1, i2, i3, i4⟩ := ins_cells (SliceIn.later Hc.out hbw) (u := u) (by rw [← Hn.out.1]; exact huN)
        obtain ⟨x, hx⟩ : ∃ x, x = insAt code (u : Int) := ⟨_, rfl⟩
        rw [← hx] at i0 i1 i2 i3 i4
        obtain ⟨xop, xa, xb, xc, xn⟩ := x
        simp only at i0 i1 i2 i3 i4
        have hbad : badBack code (insAt code (head : Int)) (u : Int) = (xop != 18 || xa != ca) := by unfold badBack; rw [← hx, ← Hcd.out]
        have Hbad := Lib.hid hbad
        have Hu := Lib.hid hu
        have k1 := block_lt_of_cell i0
        have k2 := block_lt_of_cell hcu
        have k3 := block_lt_of_cell f4
        have k4 := block_lt_of_cell l3
        have k5 := block_lt_of_cell c0
        clear hbad hu hx hcb hun hu0 hbw
        go_upto_region 8 with (fail)
        go_region
        obtain ⟨wX, hwX⟩ : ∃ W, W = (wr.alloc (.cells #[.int .i64 xop, .int .i64 xa, .int .i64 xb, .int .i64 xc, .int .i64 xn] 52)).drew := ⟨_, rfl⟩
        have hbX : Below wr.heap.size wr wX := by rw [hwX]; exact ((Below.refl _ _).alloc (Nat.le_refl _) _).drew
        have x0 : wX.cell? ⟨wr.heap.size, 0, none⟩ = some (.int .i64 xop) := by rw [hwX]; go_simp
        have x1 : wX.cell? ⟨wr.heap.size, 1, none⟩ = some (.int .i64 xa) := by rw [hwX]; go_simp
        rw [← hwX]
        have y1 := (hbX.cell (p := ⟨w.heap.size + 2, 1, none⟩) k5).trans c1
        have y3 := (hbX.cell (p := ⟨w.heap.size + 1, 3, none⟩) k4).trans l3
        have y0 := (hbX.cell (p := ⟨gb, ob + k, none⟩) k2).trans hcu
        have HMX : Hid (OwnBools wX D (.slice (some ⟨D, 0, none⟩) n n) bl ∧ Below D W3 wX) := ⟨ownsRow_below HM.out.2.1 hbX (Nat.le_refl _), HM.out.2.2.2.trans (hbX.mono (by omega))⟩
        have hbu := OwnBools.cell HMX.out.1 (k := u) (by rw [HM.out.1.1]; exact huN)
        have hfu := OwnBools.free HMX.out.1 u
        generalize bl.getD u false = b0 at hbu
        have HbX := Lib.hid hbX
        clear hwX hbX i0 i1 i2 i3 i4 k1 k2 k3 k4 k5 c0 c1 l3 f4 hcu
        by_cases h18 : xop = 18
        · have q1 : (xop != 18) = false := by simp [h18]
          by_cases hxa : xa = ca
          · have q2 : (xa != ca) = false := by simp [hxa]
            have Hb2 : Hid (badBack code (insAt code (head : Int)) (u : Int) = false) := by show _ = _; rw [Hbad.out, q1, q2]; rfl
            have HN : Hid (OwnBools (wX.setCell ⟨D, u, none⟩ (.bool true)) D (.slice (some ⟨D, 0, none⟩) n n) (bl.set u true) ∧ Below D W3 (wX.setCell ⟨D, u, none⟩ (.bool true))) := ⟨OwnBools.store HMX.out.1 u true, HMX.out.2.setCell (Nat.le_refl _) _⟩
            clear h18 hxa
            go_wp2_with fail
            go_roundg (nb - (k + 1))
            case measure => have := HG.out; omega
            case rel => exact ⟨k + 1, _, rfl, by go_num, hkn, HM.out.1.next Hu.out, HN.out.1, fun j v hj hv => by
                by_cases e : j = k
                · subst e
                  rw [Hu.out] at hv
                  cases hv; exact Hb2.out
                · exact HM.out.2.2.1 j v (by omega) hv, HN.out.2⟩
          · have q2 : (xa != ca) = true := by simp [hxa]
            have Hb2 : Hid (countsOf code (head : Int) mem backs = (72, (u : Int))) := countsOf_back HopI.out Hu.out HM.out.2.2.1 (by rw [Hbad.out, q1, q2]; rfl)
            clear h18 hxa hbu hfu
            go_wp2_with (go_quiet (fail))
            refine bodyPost_ret (results_tmp2 rfl _ _ _) rfl ?_
            rw [Hb2.out]
            exact ⟨rfl, below_drewN (HRC.out.below.trans (HMX.out.2.mono (by have := HD.out; omega))) _⟩
        · have q1 : (xop != 18) = true := by simp [h18]
          have Hb2 : Hid (countsOf code (head : Int) mem backs = (72, (u : Int))) := countsOf_back HopI.out Hu.out HM.out.2.2.1 (by rw [Hbad.out, q1]; rfl)
          clear h18 hbu hfu
          go_wp2_with (go_quiet (fail))
          refine bodyPost_ret (results_tmp2 rfl _ _ _) rfl ?_
          rw [Hb2.out]
          exact ⟨rfl, below_drewN (HRC.out.below.trans (HMX.out.2.mono (by have := HD.out; omega))) _⟩
      · obtain rfl : nb = k := by omega
        have HS2 : Hid (∀ b : Nat, b < n → bl.getD b false = decide ((b : Int) ∈ backs)) := fun b hb => by
          rw [HM.out.1.2 b hb, List.take_of_length_le (by rw [← Hn.out.2.2]; exact Nat.le_refl _)]
        have HnoB : Hid (∀ (j : Nat) v, j < backs.length → backs[j]? = some v → badBack code (insAt code (head : Int)) v = false) := fun j v hj hv => HM.out.2.2.1 j v (by rw [Hn.out.2.2]; exact hj) hv
        have hm2 := HCk.out.l2
        obtain ⟨W5, hW5⟩ : ∃ W5 : World, W5 = wr := ⟨_, rfl⟩
        subst hW5
        clear hkn hbw c0 c1 f4 hm2
        have l2 := HCk.out.l2
        go_wp2_with fail
        clear l2 l3
        go_loopg [10, 11, 12] nm (fun g iv _ _ wx => ∃ k : Nat, g = nm - k ∧ iv = .int .i64 (k : Int) ∧ k ≤ nm ∧ (∀ (j : Nat) v, j < k → mem[j]? = some v → drives code (insAt code (head : Int)) backs v = false) ∧ Below W5.heap.size W5 wx)
        case atStart => exact ⟨0, rfl, rfl, Nat.zero_le _, fun j v h => by omega, Below.refl _ _⟩
        case round =>
          obtain ⟨k, hg', rfl, hk, hno, hbk⟩ := hrel
          have HG2 := Lib.hid hg'
          have hCk := HCk.out.keep (hbk.mono (by have := HD.out; omega))
          obtain ⟨f0, f1, f2, f3, f4⟩ := hCk.fn
          have c1 := hCk.c1
          have c2 := hCk.c2
          have l2 := hCk.l2
          simp only at c1 c2
          have hbw := hCk.below
          have HK2 := Lib.hid (And.intro hno hbk)
          have HCr := Lib.hid hCk
          clear hg' hno hbk hCk f0 f1 f2 f3
          by_cases hkn : k < nm
          · obtain ⟨gm, om, rfl, hgm, hcm⟩ := Ham.out (by omega)
            obtain ⟨u, hu⟩ : ∃ u, mem[k]? = some u := ⟨_, List.getElem?_eq_getElem (by rw [← Hn.out.2.1]; exact hkn)⟩
            have hur := Hr.out.1 u (List.mem_of_getElem? hu)
            obtain ⟨hu0, hun⟩ := hur
            obtain ⟨u, rfl⟩ := Int.eq_ofNat_of_zero_le hu0
            have huN : u < n := by omega
            have hcu : wr.cell? ⟨gm, om + k, none⟩ = some (.int .i64 (u : Int)) := (hbw.cell (p := ⟨gm, om + k, none⟩) hgm).trans (hcm k _ (by simp [intVs, hu]))
            obtain ⟨i0, i1, i2, i3, i4⟩ := ins_cells (SliceIn.later Hc.out hbw) (u := u) (by rw [← Hn.out.1]; exact huN)
            obtain ⟨x, hx⟩ : ∃ x, x = insAt code (u : Int) := ⟨_, rfl⟩
            rw [← hx] at i0 i1 i2 i3 i4
            obtain ⟨xop, xa, xb, xc, xn⟩ := x
            simp only at i0 i1 i2 i3 i4
            obtain ⟨wv, hwv⟩ : ∃ wv, wv = writesI xop xa := ⟨_, rfl⟩
            have hdr : drives code (insAt code (head : Int)) backs (u : Int) = ((wv == ca && decide (0 ≤ wv) && !decide ((u : Int) ∈ backs)) || (wv == cb' && decide (0 ≤ wv))) := by
              unfold drives; rw [← hx, ← Hcd.out, hwv]
            have Hdr := Lib.hid hdr
            have Hu := Lib.hid hu
            have Hwv := Lib.hid hwv
            have k1 := block_lt_of_cell i0
            have k2 := block_lt_of_cell hcu
            have k3 := block_lt_of_cell f4
            have k4 := block_lt_of_cell l2
            have k5 := block_lt_of_cell c1
            clear hdr hu hx hcm hun hu0 hbw hwv
            go_upto_region 15 with (fail)
            go_region
            obtain ⟨wX, hwX⟩ : ∃ W, W = (wr.alloc (.cells #[.int .i64 xop, .int .i64 xa, .int .i64 xb, .int .i64 xc, .int .i64 xn] 52)).drew := ⟨_, rfl⟩
            have hbX : Below wr.heap.size wr wX := by rw [hwX]; exact ((Below.refl _ _).alloc (Nat.le_refl _) _).drew
            have x0 : wX.cell? ⟨wr.heap.size, 0, none⟩ = some (.int .i64 xop) := by rw [hwX]; go_simp
            have x1 : wX.cell? ⟨wr.heap.size, 1, none⟩ = some (.int .i64 xa) := by rw [hwX]; go_simp
            have x2 : wX.cell? ⟨wr.heap.size, 2, none⟩ = some (.int .i64 xb) := by rw [hwX]; go_simp
            have x3 : wX.cell? ⟨wr.heap.size, 3, none⟩ = some (.int .i64 xc) := by rw [hwX]; go_simp
            have x4 : wX.cell? ⟨wr.heap.size, 4, none⟩ = some (.int .i64 xn) := by rw [hwX]; go_simp
            rw [← hwX]
            have HbX := Lib.hid hbX
            have HY : Hid (∀ W, Below wX.heap.size wX W → W.cell? ⟨w.heap.size + 2, 1, none⟩ = some (.int .i64 ca) ∧ W.cell? ⟨w.heap.size + 2, 2, none⟩ = some (.int .i64 cb') ∧ W.cell? ⟨w.heap.size + 1, 2, none⟩ = some (.slice (some ⟨gm, om, none⟩) nm cm) ∧ W.cell? ⟨gm, om + k, none⟩ = some (.int .i64 (u : Int)) ∧ W.cell? ⟨D, u, none⟩ = some (.bool (decide ((u : Int) ∈ backs))) ∧ Below W5.heap.size W5 W) := fun W hb => by
              have hb' : Below wr.heap.size wr W := hbX.trans (hb.mono hbX.size)
              have hb5 : Below W5.heap.size W5 W := HK2.out.2.trans (hb'.mono HK2.out.2.size)
              have e := OwnBools.cell (ownsRow_below HM.out.2.1 hb5 (Nat.le_refl _)) (k := u) (by rw [HM.out.1.1]; exact huN)
              rw [HS2.out u huN] at e
              exact ⟨(hb'.cell k5).trans c1, (hb'.cell (p := ⟨w.heap.size + 2, 2, none⟩) k5).trans c2, (hb'.cell k4).trans l2, (hb'.cell k2).trans hcu, e, hb5⟩
            clear hwX hbX i0 i1 i2 i3 i4 k1 k2 k3 k4 k5 c1 c2 l2 f4 hcu
            go_wp2_with fail
            refine (rwrites_any ⟨xop, xa, xb, xc, xn⟩ _).mono ?_
            rintro e w6 ⟨rfl, hb6⟩
            simp only
            rw [← Hwv.out]
            obtain ⟨y1, y2, y3, y4, y5, y6⟩ := HY.out w6 hb6
            obtain ⟨is, his⟩ : ∃ is, is = decide ((u : Int) ∈ backs) := ⟨_, rfl⟩
            rw [← his] at y5
            have Hdr2 : Hid (drives code (insAt code (head : Int)) backs (u : Int) = ((wv == ca && decide (0 ≤ wv) && !is) || (wv == cb' && decide (0 ≤ wv)))) := by show _ = _; rw [his]; exact Hdr.out
            have Hy6 := Lib.hid y6
            clear his hb6 x0 x1 x2 x3 x4 y6
            go_upto_region 17 with (fail)
            go_cut [109] (fun v wc => v = .bool ((wv == ca && decide (0 ≤ wv) && !is) || (wv == cb' && decide (0 ≤ wv))) ∧ wc = w6)
            case first =>
              cases hb1 : (wv == ca) <;> cases hb2 : decide ((0 : Int) ≤ wv) <;> cases hb3 : is <;> cases hb4 : (wv == cb')
              all_goals
                go_wp2_with fail
                go_meet
                case rel => exact ⟨by simp [hb1, hb2, hb3, hb4], rfl⟩
            case rest =>
              obtain ⟨rfl, hwc⟩ := hcut
              rw [← Hdr2.out]
              rw [← hwc] at y3 y4 Hy6
              clear hwc y1 y2 y5
              by_cases hd : drives code (insAt code (head : Int)) backs (u : Int) = true
              · have Hres : Hid (countsOf code (head : Int) mem backs = (73, (u : Int))) := countsOf_drive HopI.out HnoB.out Hu.out HK2.out.1 hd
                rw [hd]
                clear hd
                go_wp2_with (go_quiet (fail))
                refine bodyPost_ret (results_tmp2 rfl _ _ _) rfl ?_
                rw [Hres.out]
                exact ⟨rfl, below_drewN (HCk.out.below.trans (Hy6.out.mono (Nat.le_trans (by omega) HCk.out.size))) _⟩
              · rw [Bool.not_eq_true] at hd
                have Hd := Lib.hid hd
                rw [hd]
                clear hd y3 y4
                go_wp2_with fail
                go_roundg (nm - (k + 1))
                case measure => have := HG2.out; omega
                case rel => exact ⟨k + 1, rfl, by go_num, hkn, fun j v hj hv => by
                    by_cases e : j = k
                    · subst e
                      rw [Hu.out] at hv
                      cases hv; exact Hd.out
                    · exact HK2.out.1 j v (by omega) hv, Hy6.out⟩
          · obtain rfl : nm = k := by omega
            have hend := countsOf_end (mem := mem) HopI.out HnoB.out (fun j v hj hv => HK2.out.1 j v (by rw [Hn.out.2.1]; exact hj) hv)
            obtain ⟨W6, hW6⟩ : ∃ W6 : World, W6 = wr := ⟨_, rfl⟩
            subst hW6
            have Hend := Lib.hid hend
            clear hend hkn c1 c2 f4 hbw
            go_wp2_with fail
            clear l2
            go_loopg [13] nm (fun g iv wx => ∃ k : Nat, g = nm - k ∧ iv = .int .i64 (k : Int) ∧ k ≤ nm ∧ (∀ (j : Nat) v, j < k → mem[j]? = some v → v ≠ cn) ∧ Below W6.heap.size W6 wx)
            case atStart => exact ⟨0, rfl, rfl, Nat.zero_le _, fun j v h => by omega, Below.refl _ _⟩
            case round =>
              obtain ⟨k, hg', rfl, hk, hno, hbk⟩ := hrel
              have HG3 := Lib.hid hg'
              have hCk := HCr.out.keep (hbk.mono (by have := HCr.out.size; omega))
              obtain ⟨f0, f1, f2, f3, f4⟩ := hCk.fn
              have c4 := hCk.c4
              have l2 := hCk.l2
              have l0 := hCk.l0
              simp only at c4
              have hbw := hCk.below
              have HK3 := Lib.hid (And.intro hno hbk)
              clear hg' hno hbk hCk f0 f1 f2 f3 f4
              by_cases hkn : k < nm
              · obtain ⟨gm, om, rfl, hgm, hcm⟩ := Ham.out (by omega)
                obtain ⟨u, hu⟩ : ∃ u, mem[k]? = some u := ⟨_, List.getElem?_eq_getElem (by rw [← Hn.out.2.1]; exact hkn)⟩
                have hcu : wr.cell? ⟨gm, om + k, none⟩ = some (.int .i64 u) := (hbw.cell (p := ⟨gm, om + k, none⟩) hgm).trans (hcm k _ (by simp [intVs, hu]))
                have Hu := Lib.hid hu
                have Hbw := Lib.hid hbw
                clear hu hcm hbw
                by_cases huc : u = cn
                · have q : (u == cn) = true := by simp [huc]
                  have Hres : Hid (countsOf code (head : Int) mem backs = (74, (head : Int))) := by
                    show _ = _
                    rw [Hend.out, if_pos]
                    rw [List.any_eq_true]
                    exact ⟨u, List.mem_of_getElem? Hu.out, by rw [← Hcd.out]; exact q⟩
                  clear huc
                  go_wp2_with (go_quiet (fail))
                  refine bodyPost_ret (results_tmp2 rfl _ _ _) rfl ?_
                  rw [Hres.out]
                  exact ⟨rfl, below_drewN (below_drewN Hbw.out _) _⟩
                · have q : (u == cn) = false := by simp [huc]
                  have Huc := Lib.hid huc
                  clear huc
                  go_wp2_with (go_quiet (fail))
                  go_roundg (nm - (k + 1))
                  case measure => have := HG3.out; omega
                  case rel => exact ⟨k + 1, rfl, by go_num, hkn, fun j v hj hv => by
                    by_cases e : j = k
                    · subst e
                      rw [Hu.out] at hv
                      cases hv; exact Huc.out
                    · exact HK3.out.1 j v (by omega) hv, below_drewN HK3.out.2 _⟩
              · obtain rfl : nm = k := by omega
                have Hres : Hid (countsOf code (head : Int) mem backs = (0, 0)) := by
                  show _ = _
                  rw [Hend.out, if_neg]
                  intro h
                  obtain ⟨x, hx, e⟩ := List.any_eq_true.1 h
                  obtain ⟨j, hj⟩ := List.mem_iff_getElem?.1 hx
                  rw [← Hcd.out] at e
                  exact HK3.out.1 j x (by rw [Hn.out.2.1]; exact (List.getElem?_eq_some_iff.1 hj).1) hj (by simpa using e)
                have Hbw := Lib.hid hbw
                clear hbw
                go_wp2_with fail
                refine bodyPost_ret (results_tmp2 rfl _ _ _) rfl ?_
                rw [Hres.out]
                exact ⟨rfl, Hbw.out⟩
  · have hq : (cop != 17) = true := by simp [hop]
    have Hres := Lib.hid (countsOf_head (code := code) (head := (head : Int)) (mem := mem) (backs := backs) (by rw [← Hcd.out]; exact hop))
    clear hop hmk
    go_enter Tryd.func28, Tryd.ntmps28
    go_wp2_with (go_quiet (fail))
    refine bodyPost_ret (results_tmp2 rfl _ _ _) rfl ?_
    rw [Hres.out]
    exact ⟨rfl, below_drewN (by repeat first | exact Below.refl _ _ | refine Below.alloc ?_ (by (try simp only [World.size_alloc]); (try simp only [size_set]); omega) _) _⟩
end Go.Proofs.YtapjdndcnenadaaDoor
