/- flow.Edges: the iterator over all edges: what it hands over, for every loop body that keeps what is not its own. -/
import Derived.Test.YtapjdndcnenadaaDoorReach
import Derived.RangeFuncNested
import Derived.RangeFuncBound
import Derived.RangeFuncCalls
import Derived.RangeFuncLeaves
import Derived.Shelf.Abstract
import Derived.Shelf.RegionOpen
import Derived.OwnWalkIn
import Derived.TacticsInMore
import Derived.LoopNIn
import Derived.LoopIn
namespace Go.Proofs.YtapjdndcnenadaaDoor
open Go.RowKit

/-- An operation that was passed over says neither yes nor no. -/
theorem yielded_undef : (Go.yielded.match_1 (fun _ => Option Bool) (some undef) (fun b => some b) (fun _ => none)) = none := rfl
attribute [go_sem] yielded_undef

abbrev Edge := Int × Int
def edgesTo (code : List Ins) (can : List Bool) : Nat → List Edge
  | 0 => []
  | u + 1 => edgesTo code can u ++ if can.getD u false = true then (nextL code u).map (fun v => ((u : Int), v)) else []
noncomputable def edgesL (code : List Ins) : List Edge := edgesTo code (reachL code (-1)) (reachL code (-1)).length

/-- What a round keeps that owns the blocks M: every other block of cells. -/
structure KM (M : World → Nat → Prop) (W W' : World) : Prop where
  size : W.heap.size ≤ W'.heap.size
  same : ∀ k c e fz, W.heap[k]? = some (.cells c e fz) → ¬ M W k → W'.heap[k]? = some (.cells c e fz)
  own : ∀ k, M W' k → M W k ∨ W.heap.size ≤ k
  lt : (∀ k, M W k → k < W.heap.size) → ∀ k, M W' k → k < W'.heap.size

theorem KM.trans {M : World → Nat → Prop} {A B C : World} (h : KM M A B) (k : KM M B C) : KM M A C :=
  ⟨Nat.le_trans h.size k.size, fun i c e fz hi hm => k.same i c e fz (h.same i c e fz hi hm) (fun hb => by
    rcases h.own i hb with h1 | h1
    · exact hm h1
    · have := (Array.getElem?_eq_some_iff.1 hi).1; omega), fun i hi => by
    rcases k.own i hi with h1 | h1
    · exact h.own i h1
    · exact Or.inr (Nat.le_trans h.size h1), fun hA => k.lt (h.lt hA)⟩

/-- What is asked of a loop's own blocks: they lie, from n0 on, none is the iterator's box; steps that are not the loop's add none. -/
structure MFit (M : World → Nat → Prop) (n0 Bf B : Nat) : Prop where
  low : ∀ W k, M W k → n0 ≤ k ∧ k ≠ Bf
  step : ∀ W W', B ≤ W.heap.size → W.grownBy W' none → ∀ k, M W' k → M W k
  put : ∀ W l o o', B ≤ l → W.heap[l]? = some o → o.isCells = false → ∀ k, M (W.putObj l o') k → M W k

theorem KM.put {M : World → Nat → Prop} {n0 Bf B : Nat} (hM : MFit M n0 Bf B) (W : World) (l : Nat) (o o' : Obj) (hl : B ≤ l) (h : W.heap[l]? = some o) (ho : o.isCells = false) : KM M W (W.putObj l o') := by
  refine ⟨by simp [World.putObj], fun k c e fz hk _ => ?_, fun k hk => Or.inl (hM.put W l o o' hl h ho k hk), fun hlt q hq => by have := hlt q (hM.put W l o o' hl h ho q hq); simpa [World.putObj] using this⟩
  by_cases hkl : k = l
  · subst hkl; rw [h] at hk; cases hk; cases ho
  · rw [World.putObj_heap_other (by omega)]; exact hk

theorem KM.cell {M : World → Nat → Prop} {W W' : World} (h : KM M W W') {p : Addr} {v : Value} (hm : ¬ M W p.block) (hc : W.cell? p = some v) : W'.cell? p = some v := by
  unfold World.cell? at hc
  split at hc
  · rename_i c e fz hb
    rw [World.cell?, h.same _ _ _ _ hb hm]; exact hc
  · cases hc

theorem KM.row {M : World → Nat → Prop} {W W' : World} (h : KM M W W') {B : Nat} {e : TypeId} {size : Nat} {v : Value} {n : Nat} {xs : List Value} (hr : W.ownsRow B e size v n xs) (hm : ∀ k, v.ownBlock = some k → ¬ M W k) :
    W'.ownsRow B e size v n xs ∧ ∀ k, v.ownBlock = some k → ¬ M W' k := by
  refine ⟨⟨hr.1, ?_⟩, fun k hk hm' => ?_⟩
  · rcases hr.2 with h2 | ⟨g, cap, cur, hv, hg, hh, r⟩
    · exact Or.inl h2
    · subst hv; exact Or.inr ⟨g, cap, cur, rfl, hg, h.same g _ _ _ hh (hm g rfl), r⟩
  · rcases h.own k hm' with h1 | h1
    · exact hm k hk h1
    · have := (World.ownsRow.lt hr k hk).2; omega

theorem SliceIn.keep {w W : World} {v : Value} {n size : Nat} {cs : List Value} (h : SliceIn w v n size cs) (hs : w.heap.size ≤ W.heap.size) (hc : ∀ p u, p.block < w.heap.size → w.cell? p = some u → W.cell? p = some u) : SliceIn W v n size cs := by
  obtain ⟨h1, a, cap, rfl, h2, h3, h4, h5⟩ := h
  refine ⟨h1, a, cap, rfl, h2, h3, h4, fun h0 => ?_⟩
  obtain ⟨b, off, rfl, hlt, hx⟩ := h5 h0
  exact ⟨b, off, rfl, Nat.lt_of_lt_of_le hlt hs, fun j u hu => hc _ _ hlt (hx j u hu)⟩

/-- What the iterator leans on in memory. -/
structure EAt (w0 W : World) (Bf : Nat) (s : ByteArray) (vp : Value) (regs words : Int) (vc : Value) : Prop where
  fn : FnAt W Bf s vp regs words vc
  size : w0.heap.size ≤ W.heap.size
  low : ∀ p u, p.block < w0.heap.size → w0.cell? p = some u → W.cell? p = some u
  lt : Bf < W.heap.size

theorem EAt.keep {w0 W W' : World} {Bf B : Nat} {s : ByteArray} {vp : Value} {regs words : Int} {vc : Value} (h : EAt w0 W Bf s vp regs words vc) {M : World → Nat → Prop} (hM : MFit M w0.heap.size Bf B) (hk : KM M W W') : EAt w0 W' Bf s vp regs words vc := by
  have hb : ¬ M W Bf := fun hm => (hM.low W Bf hm).2 rfl
  refine ⟨⟨hk.cell hb h.fn.c0, hk.cell hb h.fn.c1, hk.cell hb h.fn.c2, hk.cell hb h.fn.c3, hk.cell hb h.fn.c4⟩, Nat.le_trans h.size hk.size, fun p u hp hc => hk.cell (fun hm => ?_) (h.low p u hp hc), Nat.lt_of_lt_of_le h.lt hk.size⟩
  have := (hM.low W p.block hm).1; omega

theorem EAt.later {w0 W W' : World} {Bf : Nat} {s : ByteArray} {vp : Value} {regs words : Int} {vc : Value} (h : EAt w0 W Bf s vp regs words vc) (hb : Below W.heap.size W W') : EAt w0 W' Bf s vp regs words vc :=
  ⟨h.fn.later hb h.lt, Nat.le_trans h.size hb.size, fun p u hp hc => (hb.cell (Nat.lt_of_lt_of_le hp h.size)).trans (h.low p u hp hc), Nat.lt_of_lt_of_le h.lt hb.size⟩

theorem grown_below {W W' : World} (h : Below W.heap.size W W') : W.grownBy W' none := ⟨h.os, h.tape, h.output, h.size, fun k hk _ => h.block k hk⟩

abbrev encE (e : Edge) : Array Value := #[.int .i64 e.1, .int .i64 e.2]

theorem edgesTo_len (code : List Ins) (can : List Bool) (n : Nat) : (edgesTo code can n).length ≤ 2 * n := by
  induction n with
  | zero => simp [edgesTo]
  | succ n ih =>
    have := nextL_len code n
    unfold edgesTo; split <;> simp <;> omega
theorem edgesTo_prefix (code : List Ins) (can : List Bool) {n m : Nat} (h : n ≤ m) : edgesTo code can n <+: edgesTo code can m := by
  induction h with
  | refl => exact List.prefix_refl _
  | step _ ih => exact ih.trans (by rw [edgesTo]; exact List.prefix_append _ _)

def edgesAt (code : List Ins) (can : List Bool) (k j : Nat) : List Edge := edgesTo code can k ++ ((nextL code k).take j).map fun v => ((k : Int), v)
theorem edgesAt_zero (code : List Ins) (can : List Bool) (k : Nat) : edgesAt code can k 0 = edgesTo code can k := by simp [edgesAt]
theorem edgesAt_succ (code : List Ins) (can : List Bool) (k : Nat) {j : Nat} (hj : j < (nextL code k).length) : edgesAt code can k (j + 1) = edgesAt code can k j ++ [((k : Int), (nextL code k).getD j 0)] := by
  unfold edgesAt
  rw [List.take_succ_eq_append_getElem hj, List.map_append, ← List.append_assoc]
  simp [List.getD, hj]
theorem edgesAt_all {code : List Ins} {can : List Bool} {k j : Nat} (hc : can.getD k false = true) (hj : (nextL code k).length ≤ j) : edgesAt code can k j = edgesTo code can (k + 1) := by
  rw [edgesTo, if_pos hc, edgesAt, List.take_of_length_le hj]
theorem edgesTo_skip {code : List Ins} {can : List Bool} {k : Nat} (hc : can.getD k false = false) : edgesTo code can (k + 1) = edgesTo code can k := by
  rw [edgesTo, if_neg (by rw [hc]; decide), List.append_nil]
theorem edgesAt_prefix {code : List Ins} {can : List Bool} {k j n : Nat} (hc : can.getD k false = true) (hk : k < n) : edgesAt code can k j <+: edgesTo code can n := by
  refine List.IsPrefix.trans ?_ (edgesTo_prefix code can (show k + 1 ≤ n from hk))
  rw [edgesTo, if_pos hc, edgesAt]
  exact (List.prefix_append_right_inj _).2 ((List.take_prefix _ _).map _)
theorem edgesAt_lt {code : List Ins} {can : List Bool} {k j n : Nat} (hc : can.getD k false = true) (hk : k < n) (hj : j < (nextL code k).length) : (edgesAt code can k j).length < (edgesTo code can n).length := by
  have h := (edgesAt_prefix (code := code) (j := j + 1) hc hk).length_le
  rw [edgesAt_succ _ _ _ hj] at h
  simp at h; omega

/-- The loop's relation: what the iterator itself has made is kept. -/
structure EMade (M : World → Nat → Prop) (W0 wr : World) (v : Value) (can : List Bool) : Prop where
  own : OwnBools wr 0 v can
  apart : ∀ k, v.ownBlock = some k → ¬ M wr k
  size : W0.heap.size ≤ wr.heap.size
  lt : ∀ k, M wr k → k < wr.heap.size

set_option maxRecDepth 100000 in
set_option maxHeartbeats 2000000 in
theorem edges_round (n l Bf : Nat) (hn : 1 ≤ n) (w0 : World) (s : ByteArray) (vp : Value) (regs words : Int) (vc : Value) (code : List Ins) (hlen : code.length * 40 ≤ 140737488351232) (hc : CodeIn w0 vc code)
    (M : World → Nat → Prop) (B : Nat) (hM : MFit M w0.heap.size Bf B) (J Jx : List Edge → World → Prop) (W : World) (hBW : B ≤ W.heap.size) (hJ : AbidesFrom W.heap.size J)
    (hY : ∀ pre x W1, J pre W1 → pre ++ [x] <+: edgesL code → YieldAt Fence.wide (n - 1) Tryd.prog l (encE x) W1 fun e W' =>
      (e = .returned (.bool true) ∧ J (pre ++ [x]) W' ∧ KM M W1 W') ∨ (e = .returned (.bool false) ∧ Jx (pre ++ [x]) W'))
    (hE : EAt w0 W Bf s vp regs words vc) (hlt : ∀ k, M W k → k < W.heap.size) (h0 : J [] W) :
    CallsIn Fence.wide n Tryd.prog 43 #[.func (.yield l) #[] #[], .pointer (some ⟨Bf, 0, none⟩)] W fun e W' => (∃ v, e = .returned v) ∧
      ((∃ ys, ys = edgesL code ∧ J ys W') ∨ (∃ pre, pre <+: edgesL code ∧ Jx pre W')) := by
  obtain ⟨f0, f1, f2, f3, f4⟩ := hE.fn
  have Hlen := Lib.hid hlen
  have hcode : CodeIn W vc code := SliceIn.keep hc hE.size hE.low
  have Hcode := Lib.hid hcode
  have HJ := Lib.hid hJ
  have HY := Lib.hid hY
  have HE := Lib.hid hE
  have Hc := Lib.hid hc
  have H0 := Lib.hid h0
  have Hlt := Lib.hid hlt
  clear hlen hcode hJ hY hE hc h0 hlt
  refine callsIn_of_wp Tryd.func43 rfl trivial ?_ rfl
  simp only [Tryd.ntmps43, List.size_toArray, List.length_cons, List.length_nil, Nat.reduceAdd, Nat.reduceSub, Array.replicate_succ, Array.replicate_zero, List.push_toArray, List.append_toArray, List.nil_append, List.cons_append]
  gi_wp2_with fail
  refine ⟨trivial, (callsIn_wide.2 (reach_any s vp regs words vc code _ Hlen.out Hcode.out)).mono ?_⟩
  rintro e W1 ⟨v8, rfl, hv8, hb1⟩
  have hJ1 : J [] W1 := HJ.out _ _ _ none H0.out (grown_below hb1) (by intro r e; cases e)
  have hE1 := HE.out.later hb1
  obtain ⟨can, hcan⟩ : ∃ can, can = reachL code (-1) := ⟨_, rfl⟩
  rw [← hcan] at hv8
  have hm1 : EMade M W W1 v8 can := by
    refine ⟨ownsRow_mono hv8 (Nat.zero_le _), fun k hk hm => ?_, hb1.size, fun k hk => Nat.lt_of_lt_of_le (Hlt.out k (hM.step W W1 hBW (grown_below hb1) k hk)) hb1.size⟩
    have h1 := (World.ownsRow.lt hv8 k hk).1
    have h2 := Hlt.out _ (hM.step W W1 hBW (grown_below hb1) k hm)
    omega
  obtain ⟨a8, c8, rfl, hc8⟩ : ∃ a8 c8, v8 = .slice a8 can.length c8 ∧ (0 < can.length → ∃ g, a8 = some ⟨g, 0, none⟩) := by
    rcases hv8.form with ⟨h, h2⟩ | ⟨g, c, h, _⟩
    · exact ⟨none, 0, by rw [h, h2]; rfl, by rw [h2]; simp⟩
    · exact ⟨_, _, h, fun _ => ⟨g, rfl⟩⟩
  obtain ⟨nR, hnR⟩ : ∃ nR, nR = can.length := ⟨_, rfl⟩
  rw [← hnR] at hc8 ⊢
  have hnb : nR ≤ 1024 := by
    rw [hnR, hcan, reachL_length]; split
    · rename_i h; simp [hasB] at h; exact h.2
    · omega
  have htot : edgesL code = edgesTo code can nR := by rw [hnR, hcan]; rfl
  have Htot := Lib.hid htot
  have HnR := Lib.hid hnR
  have HJ1 := Lib.hid hJ1
  have HE1 := Lib.hid hE1
  have Hm1 := Lib.hid hm1
  rw [← hnR] at hm1
  have Hm1' := Lib.hid hm1
  clear hcan hnR hJ1 hE1 hm1 hv8 hb1 htot f0 f1 f2 f3 f4 Hcode H0 Hm1
  gi_wp2
  gi_loopw [10] (fun i wr => ∃ k : Nat, k ≤ nR ∧ i = .int .i64 k ∧ J (edgesTo code can k) wr ∧ EAt w0 wr Bf s vp regs words vc ∧ EMade M W wr (.slice a8 nR c8) can) (fun i _ => nR - (intOf i).toNat)
  case atStart => exact ⟨0, Nat.zero_le _, rfl, HJ1.out, HE1.out, Hm1'.out⟩
  case round =>
    obtain ⟨k, hk, rfl, hJk, hEk, hmk⟩ := hrel
    have HJk := Lib.hid hJk
    have HEk := Lib.hid hEk
    have Hmk := Lib.hid hmk
    clear hJk hEk hmk HJ1 HE1 Hm1'
    by_cases hkn : k < nR
    · obtain ⟨g8, rfl⟩ := hc8 (by omega)
      have hck : wr.cell? ⟨g8, k, none⟩ = some (.bool (can.getD k false)) := OwnBools.cell Hmk.out.own (by rw [← HnR.out]; exact hkn)
      cases hb : can.getD k false
      · rw [hb] at hck
        have Hb := Lib.hid hb
        clear hb hc8
        gi_wp2
        go_roundw
        case rel => exact ⟨k + 1, by omega, by go_num, by rw [edgesTo_skip Hb.out]; exact HJk.out, HEk.out, Hmk.out⟩
        case measure => simp [intOf]; omega
      · rw [hb] at hck
        have Hb := Lib.hid hb
        clear hb hc8
        obtain ⟨f0, f1, f2, f3, f4⟩ := HEk.out.fn
        have hcode : CodeIn wr vc code := SliceIn.keep Hc.out HEk.out.size HEk.out.low
        have Hcode := Lib.hid hcode
        clear hcode
        gi_wp2_with fail
        refine ⟨trivial, (callsIn_wide.2 (next_any s vp regs words vc code _ _ Hlen.out Hcode.out)).mono ?_⟩
        rintro e W2 ⟨v9, rfl, hv9, hb2⟩
        have hBk : B ≤ wr.heap.size := Nat.le_trans hBW Hmk.out.size
        have hfr : ∀ g, M W2 g → M wr g := hM.step wr W2 hBk (grown_below hb2)
        have hE2 := HEk.out.later hb2
        have hJ2 : J (edgesAt code can k 0) W2 := by
          rw [edgesAt_zero]
          refine HJ.out _ _ _ none HJk.out ⟨hb2.os, hb2.tape, hb2.output, hb2.size, fun i hi _ => hb2.block i hi⟩ (by intro r e; cases e)
        have hm2 : EMade M W W2 (.slice (some ⟨g8, 0, none⟩) nR c8) can :=
          ⟨ownsRow_below Hmk.out.own hb2 (Nat.le_refl _), fun g hg hm => Hmk.out.apart g hg (hfr g hm), Nat.le_trans Hmk.out.size hb2.size, fun g hg => Nat.lt_of_lt_of_le (Hmk.out.lt g (hfr g hg)) hb2.size⟩
        have hm9 : ∀ g, v9.ownBlock = some g → ¬ M W2 g := by
          intro g hg hm
          have h1 := (World.ownsRow.lt hv9 g hg).1
          have h2 := Hmk.out.lt _ (hfr g hm)
          omega
        obtain ⟨ln, hln⟩ : ∃ ln, ln = nextL code k := ⟨_, rfl⟩
        rw [← hln] at hv9
        have hv9' : OwnInts W2 0 v9 ln := ownsRow_mono hv9 (Nat.zero_le _)
        obtain ⟨a9, c9, rfl, hc9⟩ : ∃ a9 c9, v9 = .slice a9 ln.length c9 ∧ (0 < ln.length → ∃ g, a9 = some ⟨g, 0, none⟩) := by
          rcases hv9.form with ⟨h, h2⟩ | ⟨g, c, h, _⟩
          · exact ⟨none, 0, by rw [h, h2]; rfl, by rw [h2]; simp⟩
          · exact ⟨_, _, h, fun _ => ⟨g, rfl⟩⟩
        obtain ⟨nL, hnL⟩ : ∃ nL, nL = ln.length := ⟨_, rfl⟩
        rw [← hnL] at hc9 hm9 hv9' ⊢
        have hn2 : nL ≤ 2 := by rw [hnL, hln]; exact nextL_len _ _
        have Hln := Lib.hid hln
        have HnL := Lib.hid hnL
        have HJ2 := Lib.hid hJ2
        have HE2 := Lib.hid hE2
        have Hm2 := Lib.hid hm2
        have Hm9 := Lib.hid hm9
        have Hv9 := Lib.hid hv9'
        clear hln hnL hJ2 hE2 hm2 hm9 hv9 hv9' hfr hb2 f0 f1 f2 f3 f4 Hcode hck
        gi_wp2
        gi_loopw [21] (fun i wx => ∃ j : Nat, j ≤ nL ∧ i = .int .i64 j ∧ J (edgesAt code can k j) wx ∧ EAt w0 wx Bf s vp regs words vc ∧ EMade M W wx (.slice (some ⟨g8, 0, none⟩) nR c8) can ∧ OwnInts wx 0 (.slice a9 nL c9) ln ∧
          (∀ g, (Value.slice a9 nL c9).ownBlock = some g → ¬ M wx g)) (fun i _ => nL - (intOf i).toNat)
        case atStart => exact ⟨0, Nat.zero_le _, rfl, HJ2.out, HE2.out, Hm2.out, Hv9.out, Hm9.out⟩
        case round =>
          obtain ⟨j, hj, rfl, hJj, hEj, hmj, hvj, hnj⟩ := hrel
          have HJj := Lib.hid hJj
          have HEj := Lib.hid hEj
          have Hmj := Lib.hid hmj
          have Hvj := Lib.hid hvj
          have Hnj := Lib.hid hnj
          clear hJj hEj hmj hvj hnj HJ2 HE2 Hm2 Hm9 Hv9
          by_cases hjn : j < nL
          · obtain ⟨g9, rfl⟩ := hc9 (by omega)
            have hcj : wr.cell? ⟨g9, j, none⟩ = some (.int .i64 (ln.getD j 0)) := OwnInts.cell Hvj.out (by rw [← HnL.out]; exact hjn)
            obtain ⟨y, hy⟩ : ∃ y, y = ln.getD j 0 := ⟨_, rfl⟩
            rw [← hy] at hcj
            have hjL : j < (nextL code k).length := by rw [← Hln.out, ← HnL.out]; exact hjn
            have hstep : edgesAt code can k (j + 1) = edgesAt code can k j ++ [((k : Int), y)] := by rw [edgesAt_succ _ _ _ hjL, hy, Hln.out]
            have hpre : edgesAt code can k (j + 1) <+: edgesL code := by rw [Htot.out]; exact edgesAt_prefix Hb.out hkn
            obtain ⟨fn, tmps, assign, body, hy2, hR⟩ := HY.out _ ((k : Int), y) wr HJj.out (by rw [← hstep]; exact hpre)
            simp only [encE] at hy2
            have Hstep := Lib.hid hstep
            have Hpre := Lib.hid hpre
            have HR := Lib.hid hR
            clear hy hstep hjL hpre hR hc9
            gi_wp2
            refine HR.out.mono ?_
            rintro e W3 (⟨rfl, hJ3, hk3⟩ | ⟨rfl, hJx3⟩)
            · have HJ3 : Hid (J (edgesAt code can k (j + 1)) W3) := by rw [Hstep.out]; exact hJ3
              have hv3 := KM.row hk3 Hvj.out Hnj.out
              have hm3 := KM.row hk3 Hmj.out.own Hmj.out.apart
              have HE3 : Hid (EAt w0 W3 Bf s vp regs words vc) := HEj.out.keep hM hk3
              have Hv3 := Lib.hid hv3
              have Hm3 : Hid (EMade M W W3 (.slice (some ⟨g8, 0, none⟩) nR c8) can) := ⟨hm3.1, hm3.2, Nat.le_trans Hmj.out.size hk3.size, hk3.lt Hmj.out.lt⟩
              clear hJ3 hk3 hv3 hm3
              gi_wp2
              go_roundw
              case rel => exact ⟨j + 1, by omega, by go_num, HJ3.out, HE3.out, Hm3.out, Hv3.out.1, Hv3.out.2⟩
              case measure => simp [intOf]; omega
            · have HX : Hid (Jx (edgesAt code can k (j + 1)) W3) := by rw [Hstep.out]; exact hJx3
              clear hJx3
              gi_wp2
              refine bodyPost_ret (results_none rfl _ _ _) rfl ?_
              exact ⟨⟨_, rfl⟩, .inr ⟨_, Hpre.out, HX.out⟩⟩
          · have hall : edgesAt code can k j = edgesTo code can (k + 1) := edgesAt_all Hb.out (by rw [← Hln.out, ← HnL.out]; omega)
            have Hall := Lib.hid hall
            clear hall
            gi_wp2
            go_roundw
            case rel => exact ⟨k + 1, by omega, by go_num, by rw [← Hall.out]; exact HJj.out, HEj.out, Hmj.out⟩
            case measure => simp [intOf]; omega
    · gi_wp2
      go_end0
      obtain rfl : k = nR := by omega
      exact ⟨⟨_, rfl⟩, .inl ⟨_, rfl, by rw [Htot.out]; exact HJk.out⟩⟩

/-- An edge of this code. -/
abbrev EdgeOf (code : List Ins) := { e : Edge // e ∈ edgesL code }

theorem edges_stops (n Bf : Nat) (hn : 1 ≤ n) (w0 : World) (s : ByteArray) (vp : Value) (regs words : Int) (vc : Value) (code : List Ins) (hlen : code.length * 40 ≤ 140737488351232) (hc : CodeIn w0 vc code)
    (M : World → Nat → Prop) (w : World) (hM : MFit M w0.heap.size Bf w.heap.size) (hE : EAt w0 w Bf s vp regs words vc) (hlt : ∀ k, M w k → k < w.heap.size) :
    SeqStopsK Fence.wide n Tryd.prog 43 #[.pointer (some ⟨Bf, 0, none⟩)] (fun x : EdgeOf code => encE x.1) (KM M) (fun xs => xs.map (·.1) = edgesL code) (fun pre => pre.map (·.1) <+: edgesL code) (edgesL code).length w := by
  intro l J Jx W hW hJ _ hY h0
  refine (edges_round n l Bf hn w0 s vp regs words vc code hlen hc M w.heap.size hM (fun pre W => ∃ pre' : List (EdgeOf code), pre'.map (·.1) = pre ∧ J pre' W) (fun pre W => ∃ pre' : List (EdgeOf code), pre'.map (·.1) = pre ∧ Jx pre' W) W hW.size
    (fun q A B row hs hg hr => by obtain ⟨pre', h1, h2⟩ := hs; exact ⟨pre', h1, hJ pre' A B row h2 hg hr⟩) ?_ (hE.later hW) (fun k hk => Nat.lt_of_lt_of_le (hlt k (hM.step w W (Nat.le_refl _) (grown_below hW) k hk)) hW.size) ⟨[], rfl, h0⟩).mono ?_
  · rintro pre x W1 ⟨pre', rfl, hJ'⟩ hp
    have hx : x ∈ edgesL code := hp.subset (by simp)
    have hl : pre'.length < (edgesL code).length := by have := hp.length_le; simp at this; omega
    refine (hY pre' ⟨x, hx⟩ W1 hJ' hl).mono ?_
    rintro e W' (⟨h1, h2, h3⟩ | ⟨h1, h2⟩)
    · exact Or.inl ⟨h1, ⟨_, by simp, h2⟩, h3⟩
    · exact Or.inr ⟨h1, _, by simp, h2⟩
  · rintro e W' ⟨hv, (⟨ys, rfl, pre', h1, h2⟩ | ⟨pre, hp, pre', h1, h2⟩)⟩
    · exact ⟨hv, Or.inl ⟨pre', h1, h2⟩⟩
    · exact ⟨hv, Or.inr ⟨pre', by show _ <+: _; rw [h1]; exact hp, h2⟩⟩

theorem edgesTo_mem {code : List Ins} {can : List Bool} {n : Nat} {e : Edge} (h : e ∈ edgesTo code can n) : ∃ u : Nat, u < n ∧ can.getD u false = true ∧ e.1 = u ∧ e.2 ∈ nextL code u := by
  induction n with
  | zero => simp [edgesTo] at h
  | succ n ih =>
    rw [edgesTo, List.mem_append] at h
    rcases h with h | h
    · obtain ⟨u, h1, h2⟩ := ih h; exact ⟨u, by omega, h2⟩
    · split at h
      · rename_i hc
        obtain ⟨v, hv, rfl⟩ := List.mem_map.1 h
        exact ⟨n, by omega, hc, rfl, hv⟩
      · simp at h
theorem edgesL_mem {code : List Ins} {e : Edge} (h : e ∈ edgesL code) : 0 ≤ e.1 ∧ e.1 < code.length ∧ 0 ≤ e.2 ∧ e.2 < code.length ∧ e.2 ∈ nextL code e.1 ∧ hasB code = true ∧ Rch code (-1) e.1.toNat ∧ Rch code (-1) e.2.toNat := by
  obtain ⟨u, hu, hc, h1, h2⟩ := edgesTo_mem h
  have hr := nextL_range h2
  have hh : hasB code = true := by
    cases hb : hasB code
    · rw [reachL_length, hb] at hu; simp at hu
    · rfl
  have hu2 : u < code.length := by rw [reachL_length, if_pos hh] at hu; exact hu
  have hru := (reachL_get hh hu2).1 hc
  refine ⟨by omega, by omega, hr.1, hr.2.1, by rw [h1]; exact h2, hh, by rw [h1]; simpa using hru, ?_⟩
  obtain ⟨v, hv⟩ := Int.eq_ofNat_of_zero_le hr.1
  rw [hv] at h2 ⊢
  exact Rch.step hru (by simpa using h2) (by omega)

set_option maxHeartbeats 400000 in
theorem edges_any (s : ByteArray) (vp : Value) (regs words : Int) (vc : Value) (w : World) :
    Calls Tryd.prog 34 #[fnV s vp regs words vc] w fun e w' => e = .returned (.func (.func 43) #[] #[.pointer (some ⟨w.heap.size, 0, none⟩)]) ∧ w.alloc (.cells #[.string s, vp, .int .i64 regs, .int .i64 words, vc] 25) = w' := by
  have hmf : ∀ (fn : Fn) (first cap : Array Value) (w : World), (Instr.makeFunc fn first cap).run Tryd.prog w = .ok (.func fn first cap) w := fun _ _ _ _ => rfl
  go_enter Tryd.func34, Tryd.ntmps34
  go_wp2_with fail
  go_ret
  exact ⟨rfl, rfl⟩

/-- Facts on cells abide a turn of a block that is no cells. -/
theorem ownsRow_turn {W W' : World} {row : Option Nat} {B : Nat} {e : TypeId} {size : Nat} {v : Value} {n : Nat} {xs : List Value} (h : W.ownsRow B e size v n xs) (hg : W.grownBy W' row) (hr : ∀ r, row = some r → ∃ o : Obj, W.heap[r]? = some o ∧ o.isCells = false) : W'.ownsRow B e size v n xs := by
  refine h.kept hg ?_
  rcases h.2 with ⟨rfl, _⟩ | ⟨g, cap, cur, rfl, _, hh, _⟩
  · exact Or.inl rfl
  · right
    intro hrow
    obtain ⟨o, ho, hc⟩ := hr g (by rw [← hrow]; rfl)
    rw [hh] at ho; cases ho; cases hc
theorem FnAt.turn {W W' : World} {row : Option Nat} {k : Nat} {s : ByteArray} {vp : Value} {regs words : Int} {vc : Value} (h : FnAt W k s vp regs words vc) (hg : W.grownBy W' row) (hr : ∀ r, row = some r → ∃ o : Obj, W.heap[r]? = some o ∧ o.isCells = false) : FnAt W' k s vp regs words vc :=
  ⟨cell_kept h.c0 hg hr, cell_kept h.c1 hg hr, cell_kept h.c2 hg hr, cell_kept h.c3 hg hr, cell_kept h.c4 hg hr⟩
end Go.Proofs.YtapjdndcnenadaaDoor
