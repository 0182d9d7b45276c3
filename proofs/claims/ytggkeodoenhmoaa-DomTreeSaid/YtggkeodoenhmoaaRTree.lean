/- R13.Tree: the reference's nearest dominators are the same. -/
import Derived.Test.YtggkeodoenhmoaaRTPlain
namespace Go.Proofs.Ytggkeodoenhmoaa
open Go.RowKit

/-- What is known of the lists when k rows are laid. -/
structure L1 (code : List Ins) (n k : Nat) (lo lm : List Int) (vs : List Value) : Prop where
  kn : k ≤ n
  lol : lo.length = n
  lo : ∀ i, i < k → lo.getD i 0 = -1
  lml : lm.length = n
  lm : ∀ b, b < n → lm.getD b 0 = (dmTo code k b : Int)
  vsl : vs.length = k
theorem L1.next {code : List Ins} {n k : Nat} {lo lm lm' : List Int} {vs : List Value} {v : Value} (h : L1 code n k lo lm vs) (hk : k < n) (h1 : lm'.length = n) (h2 : ∀ b, b < n → lm'.getD b 0 = (dmTo code (k + 1) b : Int)) : L1 code n (k + 1) (lo.set k (-1)) lm' (vs ++ [v]) :=
  ⟨hk, by rw [List.length_set]; exact h.lol, fun i hi => by
    rw [getD_set _ _ _ _ _ (by rw [h.lol]; exact hk)]
    split
    · rfl
    · exact h.lo i (by omega), h1, h2, by rw [List.length_append, h.vsl]; rfl⟩
/-- Within a row: up to j counted. -/
structure L2 (code : List Ins) (n k j : Nat) (lm : List Int) (rl : List Bool) : Prop where
  jn : j ≤ n
  lml : lm.length = n
  lm : ∀ b, b < n → lm.getD b 0 = (dmTo code (if b < j then k + 1 else k) b : Int)
  rll : rl.length = n
  rl : ∀ b, b < j → rl.getD b false = domB code (k : Int) (b : Int)
theorem L2.no {code : List Ins} {n k j : Nat} {lm : List Int} {rl : List Bool} (h : L2 code n k j lm rl) (hj : j < n) (hd : domB code (k : Int) (j : Int) = false) : L2 code n k (j + 1) lm (rl.set j false) :=
  ⟨hj, h.lml, fun b hb => by
    rw [h.lm b hb]
    by_cases hbj : b < j
    · rw [if_pos hbj, if_pos (by omega)]
    · by_cases e : b = j
      · subst e; rw [if_neg (by omega), if_pos (by omega), dmTo_no hd]
      · rw [if_neg hbj, if_neg (by omega)], by rw [List.length_set]; exact h.rll, fun b hb => by
    rw [getD_set _ _ _ _ _ (by rw [h.rll]; exact hj)]
    split
    · rename_i e; rw [e, hd]
    · exact h.rl b (by omega)⟩
theorem L2.yes {code : List Ins} {n k j : Nat} {lm : List Int} {rl : List Bool} (h : L2 code n k j lm rl) (hj : j < n) (hd : domB code (k : Int) (j : Int) = true) : L2 code n k (j + 1) (lm.set j (lm.getD j 0 + 1)) (rl.set j true) :=
  ⟨hj, by rw [List.length_set]; exact h.lml, fun b hb => by
    rw [getD_set _ _ _ _ _ (by rw [h.lml]; exact hj)]
    by_cases e : b = j
    · subst e; rw [if_pos rfl, h.lm b hb, if_neg (by omega), if_pos (by omega), dmTo_yes hd]; push_cast; rfl
    · rw [if_neg e, h.lm b hb]
      by_cases hbj : b < j
      · rw [if_pos hbj, if_pos (by omega)]
      · rw [if_neg hbj, if_neg (by omega)], by rw [List.length_set]; exact h.rll, fun b hb => by
    rw [getD_set _ _ _ _ _ (by rw [h.rll]; exact hj)]
    split
    · rename_i e; rw [e, hd]
    · exact h.rl b (by omega)⟩

theorem L2.start {code : List Ins} {n k : Nat} {lo lm : List Int} {vs : List Value} (h : L1 code n k lo lm vs) : L2 code n k 0 lm (List.replicate n false) :=
  ⟨Nat.zero_le _, h.lml, fun b hb => by rw [h.lm b hb, if_neg (by omega)], by simp, fun b hb => absurd hb (Nat.not_lt_zero b)⟩
theorem L2.none {code : List Ins} {n k : Nat} {lo lm : List Int} {vs : List Value} (h : L1 code n k lo lm vs) (hd : ∀ b : Nat, domB code (k : Int) (b : Int) = false) : L2 code n k n lm (List.replicate n false) :=
  ⟨Nat.le_refl _, h.lml, fun b hb => by rw [h.lm b hb, if_pos hb, dmTo_no (hd b)], by simp, fun b hb => by rw [hd b]; simp [List.getD, hb]⟩

/-- The nearest of the first b are found. -/
structure B3 (code : List Ins) (n b : Nat) (lo : List Int) : Prop where
  bn : b ≤ n
  len : lo.length = n
  done : ∀ i, i < b → Best code i n (lo.getD i 0)
  rest : ∀ i, b ≤ i → i < n → lo.getD i 0 = -1
/-- For b the first a are asked. -/
structure B4 (code : List Ins) (n b a : Nat) (lo : List Int) : Prop where
  an : a ≤ n
  len : lo.length = n
  done : ∀ i, i < b → Best code i n (lo.getD i 0)
  cur : Best code b a (lo.getD b 0)
  rest : ∀ i, b < i → i < n → lo.getD i 0 = -1
theorem L1.found {code : List Ins} {n : Nat} {lo lm : List Int} {vs : List Value} (h : L1 code n n lo lm vs) : B3 code n 0 lo :=
  ⟨Nat.zero_le _, h.lol, fun i hi => absurd hi (Nat.not_lt_zero i), fun i _ hi => h.lo i hi⟩
theorem B3.enter {code : List Ins} {n b : Nat} {lo : List Int} (h : B3 code n b lo) (hb : b < n) : B4 code n b 0 lo :=
  ⟨Nat.zero_le _, h.len, h.done, by rw [h.rest b (Nat.le_refl _) hb]; exact Best.zero _ _, fun i hi hn => h.rest i (by omega) hn⟩
theorem B4.leave {code : List Ins} {n b : Nat} {lo : List Int} (h : B4 code n b n lo) (hb : b < n) : B3 code n (b + 1) lo :=
  ⟨hb, h.len, fun i hi => by
    by_cases e : i = b
    · subst e; exact h.cur
    · exact h.done i (by omega), fun i hi hn => h.rest i (by omega) hn⟩
theorem B4.same {code : List Ins} {n b a : Nat} {lo : List Int} (h : B4 code n b a lo) (ha : a < n) (hc : Best code b (a + 1) (lo.getD b 0)) : B4 code n b (a + 1) lo := ⟨ha, h.len, h.done, hc, h.rest⟩
theorem B4.put {code : List Ins} {n b a : Nat} {lo : List Int} {y : Int} (h : B4 code n b a lo) (ha : a < n) (hb : b < n) (hc : Best code b (a + 1) y) : B4 code n b (a + 1) (lo.set b y) :=
  ⟨ha, by rw [List.length_set]; exact h.len, fun i hi => by rw [getD_set _ _ _ _ _ (by rw [h.len]; exact hb), if_neg (by omega)]; exact h.done i hi,
    by rw [getD_set _ _ _ _ _ (by rw [h.len]; exact hb), if_pos rfl]; exact hc, fun i hi hn => by rw [getD_set _ _ _ _ _ (by rw [h.len]; exact hb), if_neg (by omega)]; exact h.rest i hi hn⟩
theorem RT.rowCell {w1 wr : World} {B G n a : Nat} {lo lm : List Int} {g c : Nat} {vs : List Value} {bit : Nat → Nat → Bool} (h : RT w1 wr B G n lo lm (.slice (some ⟨g, 0, none⟩) n c) vs bit) (hn : vs.length = n) (ha : a < n) :
    ∃ x, wr.cell? ⟨g, a, none⟩ = some (rowV x n) ∧ ∀ b, b < n → wr.cell? ⟨x, b, none⟩ = some (.bool (bit a b)) := by
  obtain ⟨x, h1, _, _, _, h5⟩ := h.each a (by omega)
  refine ⟨x, ?_, h5⟩
  have hr := h.rows
  rw [hn] at hr
  rw [World.ownsRow.cellAt hr a (by omega), ← h1]
  simp [List.getD, show a < vs.length by omega]

set_option maxRecDepth 100000 in
set_option maxHeartbeats 4000000 in
theorem rtree_any (s : ByteArray) (vp : Value) (regs words : Int) (vc : Value) (code : List Ins) (w : World) (hlen : code.length * 40 ≤ 140737488351232) (hc : CodeIn w vc code) :
    Calls Try.prog 30 #[fnV s vp regs words vc] w (RetInts (treeL code) w) := by
  have hb0 : Below w.heap.size w (w.alloc (.cells #[.string s, vp, .int .i64 regs, .int .i64 words, vc] 25)) := (Below.refl _ _).alloc (Nat.le_refl _) _
  have Hc1 : Hid (CodeIn (w.alloc (.cells #[.string s, vp, .int .i64 regs, .int .i64 words, vc] 25)) vc code) := SliceIn.later hc hb0
  have Hc := Lib.hid hc
  have Hlen := Lib.hid hlen
  clear hc hlen hb0
  go_enter Try.func30, Try.ntmps30
  go_wp2_with fail
  refine (rreach_any s vp regs words vc code _ Hlen.out Hc1.out).mono ?_
  rintro e w1 ⟨v8, rfl, hv8, hb1⟩
  have hbl : Below w.heap.size w w1 := ((Below.refl _ _).alloc (Nat.le_refl _) _).trans (hb1.mono (by simp))
  have hfn : FnAt w1 w.heap.size s vp regs words vc := (FnAt.box w s vp regs words vc _).later hb1 (by simp)
  have hsz : w.heap.size < w1.heap.size := by have := hb1.size; simp at this; omega
  obtain ⟨can, hcan⟩ : ∃ can, can = reachL code (-1) := ⟨_, rfl⟩
  rw [← hcan] at hv8
  have hlen : can.length = if hasB code = true then code.length else 0 := by rw [hcan, reachL_length]
  have hlen2 : can.length ≤ 1024 := by
    rw [hlen]; split
    · rename_i h; simp [hasB] at h; exact h.2
    · omega
  obtain ⟨a8, c8, rfl, ha8⟩ : ∃ a8 c8, v8 = .slice a8 can.length c8 ∧ (0 < can.length → ∃ g, a8 = some ⟨g, 0, none⟩) := by
    rcases hv8.form with ⟨h, h2⟩ | ⟨g, c, h, _⟩
    · exact ⟨none, 0, by rw [h, h2]; rfl, by rw [h2]; simp⟩
    · exact ⟨_, _, h, fun _ => ⟨g, rfl⟩⟩
  obtain ⟨n, hn⟩ : ∃ n, n = can.length := ⟨_, rfl⟩
  rw [← hn] at ha8 hv8 hlen2 hlen ⊢
  have Hl := Lib.hid hlen
  have Hn := Lib.hid hn
  have Hcan := Lib.hid hcan
  have Hv8 := Lib.hid hv8
  have Hbl := Lib.hid hbl
  have Hfn := Lib.hid hfn
  clear hlen hn hcan hv8 hbl hb1 hfn Hc1
  have hmi := fun w => make_ints_run n (by omega) w
  have hmb := fun w => make_bools_run n (by omega) w
  obtain ⟨B, hB⟩ : ∃ B, B = w1.heap.size := ⟨_, rfl⟩
  go_wp2_with fail
  rw [← hB]
  have hRT0 : RT w1 (((w1.alloc (.cells (zeroInts n) 3)).alloc (.cells (zeroInts n) 3)).alloc (.cells #[] 37)) B (B + 3) n (List.replicate n 0) (List.replicate n 0) (.slice (some ⟨B + 1 + 1, 0, none⟩) 0 0) [] (fun a b => domB code (a : Int) (b : Int)) := by
    rw [hB]
    refine ⟨(((Below.refl _ _).alloc (Nat.le_refl _) _).alloc (by (try simp only [World.size_alloc]); (try simp only [size_set]); omega) _).alloc (by (try simp only [World.size_alloc]); (try simp only [size_set]); omega) _, ?_, ?_, ?_, fun i hi => absurd hi (Nat.not_lt_zero i), fun k hk => ?_, by omega, by simp⟩
    · exact World.ownsRow.alloc (World.ownsRow.alloc (owns_zeroInts w1 n (Nat.le_refl _) (by omega)) _) _
    · have := owns_zeroInts (w1.alloc (.cells (zeroInts n) 3)) (B := w1.heap.size + 1) n (by simp) (by omega)
      rw [World.size_alloc] at this
      exact World.ownsRow.alloc this _
    · have := owns_empty (B := w1.heap.size + 2) ((w1.alloc (.cells (zeroInts n) 3)).alloc (.cells (zeroInts n) 3)) 37 1 (by simp)
      simpa using this
    · simp [Value.ownBlock] at hk; omega
  have HRT0 := Lib.hid hRT0
  have HB := Lib.hid hB
  have hszB : w.heap.size < B := by omega
  clear hRT0 hB hsz
  go_loopg [6, 7, 8, 9, 10] n (fun g rv iv _ _ _ wr => ∃ (k : Nat) (lo lm : List Int) (vs : List Value), g = n - k ∧ iv = .int .i64 (k : Int) ∧ L1 code n k lo lm vs ∧ RT w1 wr B wr.heap.size n lo lm rv vs (fun a b => domB code (a : Int) (b : Int)))
  case atStart =>
    exact ⟨0, _, _, [], rfl, rfl, ⟨Nat.zero_le _, by simp, fun i hi => absurd hi (Nat.not_lt_zero i), by simp, fun b hb => by simp [List.getD, hb, dmTo], rfl⟩, HRT0.out.top⟩
  case round =>
    obtain ⟨k, lo, lm, vs, hg, rfl, hL, hR⟩ := hrel
    have Hg := Lib.hid hg
    have HL := Lib.hid hL
    have HR := Lib.hid hR
    clear hg hL hR HRT0
    by_cases hkn : k < n
    · have hh : hasB code = true := by
        cases hh : hasB code
        · have := Hl.out; rw [hh] at this; simp at this; omega
        · rfl
      have hcl : n = code.length := by have := Hl.out; rw [if_pos hh] at this; exact this
      obtain ⟨g8, rfl⟩ := ha8 (by omega)
      have hs1 := HR.out.low
      have hfk : wr.frozen? ⟨B, k, none⟩ = false := OwnInts.free HR.out.out k
      have hck : wr.cell? ⟨B, k, none⟩ = some (.int .i64 (lo.getD k 0)) := OwnInts.cell HR.out.out (by rw [HL.out.lol]; exact hkn)
      have hg8 : g8 < B := by rw [HB.out]; exact (World.ownsRow.lt Hv8.out g8 rfl).2
      have Hh := Lib.hid hh
      have Hcl := Lib.hid hcl
      obtain ⟨G, hG⟩ : ∃ G, G = wr.heap.size := ⟨_, rfl⟩
      obtain ⟨wA, hwA⟩ : ∃ wA, wA = (wr.setCell ⟨B, k, none⟩ (.int .i64 (-1))).alloc (.cells (zeroBools n) 4) := ⟨_, rfl⟩
      have hRA : RT w1 wA B G n (lo.set k (-1)) lm u6 vs (fun a b => domB code (a : Int) (b : Int)) := by
        rw [hwA, hG]
        exact (HR.out.setOut k (-1)).later ((Below.refl _ _).alloc (Nat.le_refl _) _)
      have hrow : OwnBools wA G (rowV G n) (List.replicate n false) := by
        rw [hwA, hG]
        have := owns_zeroBools (wr.setCell ⟨B, k, none⟩ (.int .i64 (-1))) (B := wr.heap.size) n (by rw [size_set]; exact Nat.le_refl _) (by omega)
        rw [size_set] at this
        exact this
      have hsA : G < wA.heap.size := by rw [hwA, hG]; simp
      have HG := Lib.hid hG
      have HwA := Lib.hid hwA
      have hckA : wA.cell? ⟨g8, k, none⟩ = some (.bool (can.getD k false)) := (hRA.below.cell (p := ⟨g8, k, none⟩) hg8).trans (OwnBools.cell Hv8.out (by rw [← Hn.out]; exact hkn))
      have HRA := Lib.hid hRA
      have HrowA := Lib.hid hrow
      generalize lo.getD k 0 = y0 at hck
      clear hh hcl hRA hrow hG hwA
      go_upto_region 10 with (fail)
      rw [← HwA.out, ← HG.out]
      clear hfk hck
      obtain ⟨x, hx⟩ : ∃ x, x = can.getD k false := ⟨_, rfl⟩
      rw [← hx] at hckA
      have Hx := Lib.hid hx
      clear hx
      go_upto_if 37 with (fail)
      go_cut [10] (fun _ wc => ∃ lm2 rl, RT w1 wc B G n (lo.set k (-1)) lm2 u6 vs (fun a b => domB code (a : Int) (b : Int)) ∧ OwnBools wc G (rowV G n) rl ∧ L2 code n k n lm2 rl)
      case first =>
        have hra : can.getD k false = true ↔ Rch code (-1) k := by rw [Hcan.out]; exact reachL_get Hh.out (by rw [← Hcl.out]; exact hkn)
        rw [← Hx.out] at hra
        cases x
        · have Hnd : Hid (∀ b : Nat, domB code (k : Int) (b : Int) = false) := fun b => Bool.eq_false_iff.2 fun h => by
            obtain ⟨_, _, _, _, _, h⟩ := domB_iff.1 h
            have := hra.2 (by simpa using h.1)
            cases this
          clear hra
          go_wp2_with fail
          go_meet
          case rel => exact ⟨lm, _, HRA.out, HrowA.out, L2.none HL.out Hnd.out⟩
        · have Hrk : Hid (Rch code (-1) k) := hra.1 rfl
          obtain ⟨f0, f1, f2, f3, f4⟩ := Hfn.out.later HRA.out.below hszB
          have HcA : Hid (CodeIn wA vc code) := SliceIn.later Hc.out (Hbl.out.trans (HRA.out.below.mono (by omega)))
          clear hra
          go_wp2_with fail
          refine (without_any s vp regs words vc code (k : Int) _ Hlen.out HcA.out).mono ?_
          rintro e wB ⟨v9, rfl, hv9, hbB⟩
          obtain ⟨wl, hwl⟩ : ∃ wl, wl = reachL code (k : Int) := ⟨_, rfl⟩
          rw [← hwl] at hv9
          have hwn : wl.length = n := by rw [hwl, reachL_length, if_pos Hh.out, Hcl.out]
          obtain ⟨g9, c9, rfl⟩ : ∃ g c, v9 = .slice (some ⟨g, 0, none⟩) n c := by
            rcases hv9.form with ⟨_, h2⟩ | ⟨g, c, h, _⟩
            · rw [h2] at hwn; simp at hwn; omega
            · exact ⟨g, c, by rw [h, hwn]⟩
          have Hv9 : Hid (OwnBools wB (G + 1) (.slice (some ⟨g9, 0, none⟩) n c9) wl) := ownsRow_mono hv9 (by omega)
          have HRB := Lib.hid (HRA.out.later hbB)
          have HrowB : Hid (OwnBools wB G (rowV G n) (List.replicate n false)) := ownsRow_below HrowA.out hbB (Nat.le_refl _)
          have Hwl := Lib.hid hwl
          have Hwn := Lib.hid hwn
          clear hv9 hbB hwl hwn f0 f1 f2 f3 f4 HRA HrowA HcA hsA
          go_wp2_with fail
          go_loopg [10] n (fun g iv wx => ∃ (j : Nat) (lm2 : List Int) (rl : List Bool), g = n - j ∧ iv = .int .i64 (j : Int) ∧ L2 code n k j lm2 rl ∧ RT w1 wx B G n (lo.set k (-1)) lm2 u6 vs (fun a b => domB code (a : Int) (b : Int)) ∧ OwnBools wx G (rowV G n) rl ∧ OwnBools wx (G + 1) (.slice (some ⟨g9, 0, none⟩) n c9) wl)
          case atStart => exact ⟨0, lm, _, rfl, rfl, L2.start HL.out, HRB.out, HrowB.out, Hv9.out⟩
          case round =>
            obtain ⟨j, lm2, rl, hg, rfl, hL2, hR2, hrow, hv9⟩ := hrel
            have Hg2 := Lib.hid hg
            have HL2 := Lib.hid hL2
            have HR2 := Lib.hid hR2
            have Hrow := Lib.hid hrow
            have Hv := Lib.hid hv9
            clear hg hL2 hR2 hrow hv9 HRB HrowB Hv9
            by_cases hjn : j < n
            · have ccj : wr.cell? ⟨g8, j, none⟩ = some (.bool (can.getD j false)) := (HR2.out.below.cell (p := ⟨g8, j, none⟩) hg8).trans (OwnBools.cell Hv8.out (by rw [← Hn.out]; exact hjn))
              have cwj := OwnBools.cell Hv.out (k := j) (by rw [Hwn.out]; exact hjn)
              have crj := OwnBools.cell Hrow.out (k := j) (by rw [HL2.out.rll]; exact hjn)
              have frj := OwnBools.free Hrow.out j
              have hrj : can.getD j false = true ↔ Rch code (-1) j := by rw [Hcan.out]; exact reachL_get Hh.out (by rw [← Hcl.out]; exact hjn)
              have hwj : wl.getD j false = true ↔ Rch code (k : Int) j := by rw [Hwl.out]; exact reachL_get Hh.out (by rw [← Hcl.out]; exact hjn)
              have hdj : domB code (k : Int) (j : Int) = true ↔ Dom code k j := domB_nat Hh.out (by rw [← Hcl.out]; exact hkn) (by rw [← Hcl.out]; exact hjn)
              have HF := Lib.hid (And.intro hrj (And.intro hwj hdj))
              generalize rl.getD j false = r0 at crj
              clear hrj hwj hdj
              go_upto_region 15 with (fail)
              go_cut [65] (fun _ wc => wc = wr.setCell ⟨G, j, none⟩ (.bool (domB code (k : Int) (j : Int))))
              case first =>
                cases hx : can.getD j false
                · have hd : domB code (k : Int) (j : Int) = false := Bool.eq_false_iff.2 fun h => by
                    have := HF.out.1.2 (HF.out.2.2.1 h).2.1
                    rw [hx] at this; cases this
                  have Hd := Lib.hid hd
                  rw [hx] at ccj
                  generalize wl.getD j false = z0 at cwj
                  clear hx hd
                  go_wp2_with fail
                  go_meet
                  case rel => rw [Hd.out]
                · rw [hx] at ccj
                  by_cases hkj : k = j
                  · have hd : domB code (k : Int) (j : Int) = true := HF.out.2.2.2 (by rw [← hkj]; exact Dom.refl Hrk.out)
                    have hq : ((k : Int) == (j : Int)) = true := by simp [hkj]
                    have Hd := Lib.hid hd
                    generalize wl.getD j false = z0 at cwj
                    clear hx hd hkj
                    go_wp2_with fail
                    go_meet
                    case rel => rw [Hd.out]
                  · have hq : ((k : Int) == (j : Int)) = false := by simp; omega
                    cases hz : wl.getD j false
                    · have hd : domB code (k : Int) (j : Int) = true := HF.out.2.2.2 ⟨Hrk.out, HF.out.1.1 hx, .inr fun h => by
                        have := HF.out.2.1.2 h
                        rw [hz] at this; cases this⟩
                      have Hd := Lib.hid hd
                      rw [hz] at cwj
                      clear hx hd hkj hz
                      go_wp2_with fail
                      go_meet
                      case rel => rw [Hd.out]
                    · have hd : domB code (k : Int) (j : Int) = false := Bool.eq_false_iff.2 fun h => by
                        rcases (HF.out.2.2.1 h).2.2 with e | e
                        · exact hkj e
                        · exact e (HF.out.2.1.1 hz)
                      have Hd := Lib.hid hd
                      rw [hz] at cwj
                      clear hx hd hkj hz
                      go_wp2_with fail
                      go_meet
                      case rel => rw [Hd.out]
              case rest =>
                have hwc := hcut
                clear hcut
                have hGB : G ≠ B + 1 := by have := HR2.out.low; omega
                have hRX : ∀ d : Bool, domB code (k : Int) (j : Int) = d → RT w1 wc B G n (lo.set k (-1)) lm2 u6 vs (fun a b => domB code (a : Int) (b : Int)) ∧ OwnBools wc G (rowV G n) (rl.set j d) ∧ OwnBools wc (G + 1) (.slice (some ⟨g9, 0, none⟩) n c9) wl := fun d hd => by
                  rw [hwc, hd]
                  exact ⟨HR2.out.setRow (Nat.le_refl _) j _, OwnBools.store Hrow.out j d, ownsRow_setCell_below Hv.out (by show G < G + 1; omega) _⟩
                have HRX := Lib.hid hRX
                clear hwc hRX ccj cwj crj frj
                cases hd : domB code (k : Int) (j : Int)
                · obtain ⟨h1, h2, h3⟩ := HRX.out false hd
                  have crj := OwnBools.cell h2 (k := j) (by rw [List.length_set, HL2.out.rll]; exact hjn)
                  rw [getD_set _ _ _ _ _ (by rw [HL2.out.rll]; exact hjn), if_pos rfl] at crj
                  have HX := Lib.hid (And.intro h1 (And.intro h2 h3))
                  have Hd := Lib.hid hd
                  clear h1 h2 h3 hd
                  go_wp2_with fail
                  go_roundg (n - (j + 1))
                  case measure => have := Hg2.out; omega
                  case rel => exact ⟨j + 1, lm2, _, rfl, by go_num, HL2.out.no hjn Hd.out, HX.out.1, HX.out.2.1, HX.out.2.2⟩
                · obtain ⟨h1, h2, h3⟩ := HRX.out true hd
                  have crj := OwnBools.cell h2 (k := j) (by rw [List.length_set, HL2.out.rll]; exact hjn)
                  rw [getD_set _ _ _ _ _ (by rw [HL2.out.rll]; exact hjn), if_pos rfl] at crj
                  have cmj := OwnInts.cell h1.many (k := j) (by rw [HL2.out.lml]; exact hjn)
                  have fmj := OwnInts.free h1.many j
                  have hy := HL2.out.lm j hjn
                  have hyl := dmTo_le code (if j < j then k + 1 else k) j
                  rw [if_neg (Nat.lt_irrefl j)] at hy hyl
                  have hm := h1.setMany j (lm2.getD j 0 + 1)
                  have HX : Hid (RT w1 (wc.setCell ⟨B + 1, j, none⟩ (.int .i64 (lm2.getD j 0 + 1))) B G n (lo.set k (-1)) (lm2.set j (lm2.getD j 0 + 1)) u6 vs (fun a b => domB code (a : Int) (b : Int)) ∧ OwnBools (wc.setCell ⟨B + 1, j, none⟩ (.int .i64 (lm2.getD j 0 + 1))) G (rowV G n) (rl.set j true) ∧ OwnBools (wc.setCell ⟨B + 1, j, none⟩ (.int .i64 (lm2.getD j 0 + 1))) (G + 1) (.slice (some ⟨g9, 0, none⟩) n c9) wl) :=
                    have hlow := h1.low
                    ⟨hm, ownsRow_setCell_below h2 (by show B + 1 < G; omega) _, ownsRow_setCell_below h3 (by show B + 1 < G + 1; omega) _⟩
                  have HN : Hid (L2 code n k (j + 1) (lm2.set j (lm2.getD j 0 + 1)) (rl.set j true)) := HL2.out.yes hjn hd
                  clear h1 h2 h3 hd hm
                  generalize lm2.getD j 0 = y at cmj hy HX HN
                  have hy0 : 0 ≤ y := by omega
                  have hy1 : y ≤ 1024 := by omega
                  have hwr : IntKind.i64.wrap (y + 1) = y + 1 := IntWalk.i64_in _ (by omega)
                  clear hy hyl
                  go_wp2_with fail
                  go_roundg (n - (j + 1))
                  case measure => have := Hg2.out; omega
                  case rel => exact ⟨j + 1, _, _, rfl, by go_num, HN.out, HX.out.1, HX.out.2.1, HX.out.2.2⟩
            · have hjn2 : j = n := by have := HL2.out.jn; omega
              have HL3 : Hid (L2 code n k n lm2 rl) := by show L2 _ _ _ _ _ _; rw [← hjn2]; rw [hjn2]; rw [← hjn2]; exact hjn2 ▸ HL2.out
              clear hjn2
              go_wp2_with fail
              go_meet
              case rel => exact ⟨lm2, rl, HR2.out, Hrow.out, HL3.out⟩
      case rest =>
        obtain ⟨lm2, rl, hR2, hrow, hL2⟩ := hcut
        have hvs := HL.out.vsl
        have hlow := hR2.low
        have hG2 := hR2.size
        have HR2 := Lib.hid hR2
        have Hrow := Lib.hid hrow
        have HL2 := Lib.hid hL2
        clear hR2 hrow hL2 HRA HrowA hckA hsA Hx hs1
        go_wp2_with (at_builtin; refine append_gen rfl _ _ 59 rfl Try.underlying59 Try.infoBoolRow rfl (by decide) (B + 2) _ vs.length vs rfl (World.ownsRow.alloc HR2.out.rows _) _ 1 [rowV G n] rfl (sliceIn_new wc [rowV G n] 1 1 37 rfl (by decide)) ?_ ?_ ?_ ?_ ?_)
        · intro u hu; simp at hu; subst hu; rfl
        · unfold maxLen; omega
        · omega
        · simp; omega
        · intro v' w' ho hgr hfr hbb
          have hbw := hbb B w1 (HR2.out.below.alloc (by omega) _) (by omega)
          have HP := Lib.hid (RT.push HR2.out (Nat.le_refl _) Hrow.out hvs HL2.out.rl HL2.out.rll (by rw [hvs]; exact ho) hgr hfr hbw)
          have HN : Hid (L1 code n (k + 1) (lo.set k (-1)) lm2 (vs ++ [rowV G n])) := HL.out.next hkn HL2.out.lml fun b hb => by rw [HL2.out.lm b hb, if_pos hb]
          clear ho hgr hfr hbb hbw
          go_wp2_with fail
          go_roundg (n - (k + 1))
          case measure => have := Hg.out; omega
          case rel => exact ⟨k + 1, _, lm2, _, rfl, by go_num, HN.out, HP.out⟩
    · obtain rfl : k = n := by have := HL.out.kn; omega
      have hvs := HL.out.vsl
      obtain ⟨G, hG⟩ : ∃ G, G = wr.heap.size := ⟨_, rfl⟩
      have hR := HR.out
      rw [← hG] at hR
      obtain ⟨ar, cr, rfl, har⟩ : ∃ ar cr, u6 = .slice ar k cr ∧ (0 < k → ∃ g, ar = some ⟨g, 0, none⟩) := by
        have := hR.rows
        rw [hvs] at this
        rcases this.2 with ⟨h1, h2⟩ | ⟨g, cap, cur, h1, _⟩
        · exact ⟨none, 0, by rw [h1, h2], by omega⟩
        · exact ⟨_, cap, h1, fun _ => ⟨g, rfl⟩⟩
      have HB3 := Lib.hid HL.out.found
      have Hlm := Lib.hid (And.intro HL.out.lml HL.out.lm)
      have HR3 := Lib.hid hR
      have HG := Lib.hid hG
      clear hG hR HL HR
      go_wp2_with fail
      go_loopg [11, 12] k (fun g iv _ wx => ∃ (b : Nat) (lo2 : List Int), g = k - b ∧ iv = .int .i64 (b : Int) ∧ B3 code k b lo2 ∧ RT w1 wx B G k lo2 lm (.slice ar k cr) vs (fun a b => domB code (a : Int) (b : Int)))
      case atStart => exact ⟨0, lo, rfl, rfl, HB3.out, HR3.out⟩
      case round =>
        obtain ⟨b, lo2, hg, rfl, hB3, hR⟩ := hrel
        have Hgb := Lib.hid hg
        have HB3b := Lib.hid hB3
        have HRb := Lib.hid hR
        clear hg hB3 hR HB3 HR3
        by_cases hbn : b < k
        · have hh : hasB code = true := by
            cases hh : hasB code
            · have := Hl.out; rw [hh] at this; simp at this; omega
            · rfl
          have hcl : k = code.length := by have := Hl.out; rw [if_pos hh] at this; exact this
          obtain ⟨gr, rfl⟩ := har (by omega)
          have Hh := Lib.hid hh
          have Hcl := Lib.hid hcl
          clear hh hcl
          go_wp2_with fail
          go_loopg [12] k (fun g iv wx => ∃ (a : Nat) (lo2 : List Int), g = k - a ∧ iv = .int .i64 (a : Int) ∧ B4 code k b a lo2 ∧ RT w1 wx B G k lo2 lm (.slice (some ⟨gr, 0, none⟩) k cr) vs (fun a b => domB code (a : Int) (b : Int)))
          case atStart => exact ⟨0, lo2, rfl, rfl, HB3b.out.enter hbn, HRb.out⟩
          case round =>
            obtain ⟨a, lo3, hg, rfl, hB4, hR⟩ := hrel
            have Hga := Lib.hid hg
            have HB4 := Lib.hid hB4
            have HRa := Lib.hid hR
            clear hg hB4 hR HB3b HRb
            by_cases han : a < k
            · obtain ⟨x, cx, cxs⟩ := HRa.out.rowCell hvs han
              have cxb := cxs b hbn
              have cob := OwnInts.cell HRa.out.out (k := b) (by rw [HB4.out.len]; exact hbn)
              have cma := OwnInts.cell HRa.out.many (k := a) (by rw [Hlm.out.1]; exact han)
              have hcnt : ∀ z, z < k → lm.getD z 0 = (domCount code z : Int) := fun z hz => by rw [Hlm.out.2 z hz, Hcl.out]; rw [dmTo_all Hh.out (by rw [← Hcl.out]; exact hz)]
              rw [hcnt a han] at cma
              have hdb : domB code (a : Int) (b : Int) = true ↔ Dom code a b := domB_nat Hh.out (by rw [← Hcl.out]; exact han) (by rw [← Hcl.out]; exact hbn)
              clear cxs
              by_cases hab : a = b
              · have hq : ((a : Int) != (b : Int)) = false := by simp [hab]
                have HN := Lib.hid (HB4.out.same han (HB4.out.cur.skip (.inl hab)))
                clear hab hdb hcnt cxb cob cma cx
                go_wp2_with (go_quiet (fail))
                go_roundg (k - (a + 1))
                case measure => have := Hga.out; omega
                case rel => exact ⟨a + 1, lo3, rfl, by go_num, HN.out, HRa.out.later (below_draws _ _)⟩
              · have hq : ((a : Int) != (b : Int)) = true := by rw [bne_iff_ne]; omega
                cases hd : domB code (a : Int) (b : Int)
                · rw [hd] at cxb
                  have HN := Lib.hid (HB4.out.same han (HB4.out.cur.skip (.inr fun h => by rw [hdb.2 h] at hd; cases hd)))
                  clear hab hdb hcnt cob cma hd
                  go_wp2_with (go_quiet (fail))
                  go_roundg (k - (a + 1))
                  case measure => have := Hga.out; omega
                  case rel => exact ⟨a + 1, lo3, rfl, by go_num, HN.out, HRa.out.later (below_draws _ _)⟩
                · rw [hd] at cxb
                  have hdm := hdb.1 hd
                  rcases HB4.out.cur.range with hy | ⟨p, hy, hpa⟩
                  · have HN := Lib.hid (HB4.out.put han hbn (HB4.out.cur.first (by rw [hy]; decide) hab hdm))
                    rw [hy] at cob
                    have hd0 : decide ((-1 : Int) < 0) = true := by decide
                    have fob := OwnInts.free HRa.out.out b
                    generalize domCount code a = r1 at cma
                    clear hab hdb hcnt hd hdm hy
                    go_wp2_with (go_quiet (fail))
                    go_roundg (k - (a + 1))
                    case measure => have := Hga.out; omega
                    case rel => exact ⟨a + 1, _, rfl, by go_num, HN.out, (HRa.out.later (below_draws _ _)).setOut b _⟩
                  · have cmp := OwnInts.cell HRa.out.many (k := p) (by rw [Hlm.out.1]; omega)
                    have hpk : p < k := by omega
                    rw [hcnt p hpk] at cmp
                    have hcur := HB4.out.cur
                    rw [hy] at hcur cob
                    have hd0 : decide ((p : Int) < 0) = false := by simp
                    have fob := OwnInts.free HRa.out.out b
                    by_cases hlt : domCount code p < domCount code a
                    · have HN := Lib.hid (HB4.out.put han hbn (hcur.take hab hdm hlt))
                      generalize domCount code a = r1 at cma hlt
                      generalize domCount code p = r2 at cmp hlt
                      have hd2 : decide (r2 < r1) = true := by simpa using hlt
                      have hd3 : decide ((r2 : Int) < (r1 : Int)) = true := by simp; omega
                      clear hab hdb hcnt hd hdm hy hcur hlt
                      go_wp2_with (go_quiet (fail))
                      go_roundg (k - (a + 1))
                      case measure => have := Hga.out; omega
                      case rel => exact ⟨a + 1, _, rfl, by go_num, HN.out, (HRa.out.later (below_draws _ _)).setOut b _⟩
                    · have HN := Lib.hid (HB4.out.same han (by rw [hy]; exact hcur.keep (by omega)))
                      generalize domCount code a = r1 at cma hlt
                      generalize domCount code p = r2 at cmp hlt
                      have hd2 : decide (r2 < r1) = false := by simpa using hlt
                      have hd3 : decide ((r2 : Int) < (r1 : Int)) = false := by simp; omega
                      clear hab hdb hcnt hd hdm hy hcur hlt
                      go_wp2_with (go_quiet (fail))
                      go_roundg (k - (a + 1))
                      case measure => have := Hga.out; omega
                      case rel => exact ⟨a + 1, lo3, rfl, by go_num, HN.out, HRa.out.later (below_draws _ _)⟩
            · obtain rfl : a = k := by have := HB4.out.an; omega
              have HN := Lib.hid (HB4.out.leave hbn)
              go_wp2_with fail
              go_roundg (a - (b + 1))
              case measure => have := Hgb.out; omega
              case rel => exact ⟨b + 1, lo3, rfl, by go_num, HN.out, HRa.out⟩
        · obtain rfl : b = k := by have := HB3b.out.bn; omega
          have e : treeL code = lo2 := by
            cases hh : hasB code
            · have h0 := Hl.out
              rw [hh] at h0
              have h1 := HB3b.out.len
              rw [treeL_none hh]
              exact (List.eq_nil_of_length_eq_zero (by rw [h1, h0]; rfl)).symm
            · have h0 := Hl.out
              rw [if_pos hh] at h0
              exact treeL_eq hh (Best.tree hh (by rw [HB3b.out.len, h0]) fun i hi => by rw [← h0]; exact HB3b.out.done i (by omega))
          have He := Lib.hid e
          clear e
          go_wp2_with fail
          go_ret
          exact ⟨_, rfl, by rw [He.out]; exact ownsRow_mono HRb.out.out (by omega), Hbl.out.trans (HRb.out.below.mono (by omega))⟩
end Go.Proofs.Ytggkeodoenhmoaa
