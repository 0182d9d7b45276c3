/- sameFunc and Same of the reference: two functions, two modules of one function, that hold the same. -/
import Derived.Test.YtapjdndcnenadaaDoorCopy
import Derived.StillTailTactics
namespace Go.Proofs.YtapjdndcnenadaaDoor
open Go.RowKit

theorem spans_get (l : List Span) (k : Nat) : (l.flatMap Span.cells)[k * 2]? = (l[k]?).map (fun e => .int .i64 e.lo) ∧ (l.flatMap Span.cells)[k * 2 + 1]? = (l[k]?).map (fun e => .int .i64 e.hi) := by
  induction l generalizing k with
  | nil => simp
  | cons x l ih =>
    have e : (x :: l).flatMap Span.cells = [.int .i64 x.lo, .int .i64 x.hi] ++ l.flatMap Span.cells := by simp [Span.cells]
    rw [e]
    cases k with
    | zero => simp
    | succ k =>
      have := ih k
      rw [show (k + 1) * 2 = k * 2 + 2 by omega, show k * 2 + 2 + 1 = (k * 2 + 1) + 2 by omega]
      simpa using this

theorem SpansIn.cell {w : World} {a : Option Addr} {n cap : Nat} {l : List Span} (h : SpansIn w (.slice a n cap) l) {k : Nat} (hk : k < l.length) :
    ∃ b off, a = some ⟨b, off, none⟩ ∧ b < w.heap.size ∧ w.cell? ⟨b, off + k * 2, none⟩ = some (.int .i64 (l.getD k ⟨0, 0⟩).lo) ∧ w.cell? ⟨b, off + k * 2 + 1, none⟩ = some (.int .i64 (l.getD k ⟨0, 0⟩).hi) := by
  obtain ⟨_, a', cap', hv, _, _, _, hc⟩ := h
  cases hv
  obtain ⟨b, off, rfl, hb, hc⟩ := hc (by omega)
  obtain ⟨e1, e2⟩ := spans_get l k
  refine ⟨b, off, rfl, hb, ?_, ?_⟩
  · refine hc _ _ ?_
    rw [e1]; simp [List.getD, hk]
  · rw [Nat.add_assoc]
    refine hc _ _ ?_
    rw [e2]; simp [List.getD, hk]

theorem CodeIn.cell {w : World} {a : Option Addr} {n cap : Nat} {l : List Ins} (h : CodeIn w (.slice a n cap) l) {k : Nat} (hk : k < l.length) :
    ∃ b off, a = some ⟨b, off, none⟩ ∧ b < w.heap.size ∧ w.cell? ⟨b, off + k * 5, none⟩ = some (.int .i64 l[k].op) ∧ w.cell? ⟨b, off + k * 5 + 1, none⟩ = some (.int .i64 l[k].a) ∧ w.cell? ⟨b, off + k * 5 + 2, none⟩ = some (.int .i64 l[k].b) ∧
    w.cell? ⟨b, off + k * 5 + 3, none⟩ = some (.int .i64 l[k].c) ∧ w.cell? ⟨b, off + k * 5 + 4, none⟩ = some (.int .i64 l[k].n) := by
  have h0 := h
  obtain ⟨_, a', cap', hv, _, _, _, hc⟩ := h0
  cases hv
  obtain ⟨b, off, rfl, hb, hc⟩ := hc (by omega)
  exact ⟨b, off, rfl, hb, CodeIn.at h rfl (List.getElem?_eq_getElem hk)⟩

theorem neq_span (w : World) (a b : Int) : (Go.binOp .neq 86 (.agg #[.int .i64 a, .int .i64 b]) (.agg #[.int .i64 a, .int .i64 b])).run Tryd.prog w = .ok (.bool false) w := by
  simp [go_sem, Tryd.underlying86, Tryd.underlying2]

theorem neq_ins (w : World) (a b c d e : Int) : (Go.binOp .neq 52 (.agg #[.int .i64 a, .int .i64 b, .int .i64 c, .int .i64 d, .int .i64 e]) (.agg #[.int .i64 a, .int .i64 b, .int .i64 c, .int .i64 d, .int .i64 e])).run Tryd.prog w = .ok (.bool false) w := by
  simp [go_sem, Tryd.underlying52, Tryd.underlying2, Tryd.underlying3]

set_option maxRecDepth 100000 in
set_option maxHeartbeats 1000000 in
theorem sameFunc_true (s : ByteArray) (vp vp' : Value) (regs words : Int) (vc vc' : Value) (params : List Span) (code : List Ins) (w : World) (hlen : code.length * 40 ≤ 140737488351232) (hplen : params.length * 16 ≤ 140737488351232)
    (hc : CodeIn w vc code) (hp : SpansIn w vp params) (hc' : CodeIn w vc' code) (hp' : SpansIn w vp' params) :
    Calls Tryd.prog 30 #[fnV s vp regs words vc, fnV s vp' regs words vc'] w (Gives (.bool true) w) := by
  have hx := hc; have hx' := hc'; have hy := hp; have hy' := hp'
  obtain ⟨-, a1, c1, rfl, -⟩ := hx
  obtain ⟨-, a2, c2, rfl, -⟩ := hx'
  obtain ⟨-, a3, c3, rfl, -⟩ := hy
  obtain ⟨-, a4, c4, rfl, -⟩ := hy'
  obtain ⟨n, hn⟩ : ∃ n, n = code.length := ⟨_, rfl⟩
  obtain ⟨m, hm⟩ : ∃ m, m = params.length := ⟨_, rfl⟩
  obtain ⟨W1, hW1⟩ : ∃ W1 : World, W1 = (w.alloc (.cells #[.string s, .slice a3 params.length c3, .int .i64 regs, .int .i64 words, .slice a1 code.length c1] 25)).alloc (.cells #[.string s, .slice a4 params.length c4, .int .i64 regs, .int .i64 words, .slice a2 code.length c2] 25) := ⟨_, rfl⟩
  have hb1 : Below w.heap.size w W1 := by rw [hW1]; exact ((Below.refl _ _).alloc (Nat.le_refl _) _).alloc (by (try simp only [World.size_alloc]); (try simp only [size_set]); omega) _
  have HC1 : Hid (CodeIn W1 (.slice a1 code.length c1) code) := SliceIn.later hc hb1
  have HC2 : Hid (CodeIn W1 (.slice a2 code.length c2) code) := SliceIn.later hc' hb1
  have HP1 : Hid (SpansIn W1 (.slice a3 params.length c3) params) := SliceIn.later hp hb1
  have HP2 : Hid (SpansIn W1 (.slice a4 params.length c4) params) := SliceIn.later hp' hb1
  have hf1 : FnAt W1 w.heap.size s (.slice a3 params.length c3) regs words (.slice a1 code.length c1) := by rw [hW1]; exact (FnAt.box w s _ regs words _ _).later ((Below.refl (w.heap.size + 1) _).alloc (by (try simp only [World.size_alloc]); (try simp only [size_set]); omega) _) (Nat.lt_succ_self _)
  have hf2 : FnAt W1 (w.heap.size + 1) s (.slice a4 params.length c4) regs words (.slice a2 code.length c2) := by
    rw [hW1]
    have := FnAt.box (w.alloc (.cells #[.string s, .slice a3 params.length c3, .int .i64 regs, .int .i64 words, .slice a1 code.length c1] 25)) s (.slice a4 params.length c4) regs words (.slice a2 code.length c2) 25
    simpa using this
  rw [← hn] at hlen hW1 HC1 HC2 hf1 hf2 ⊢
  rw [← hm] at hplen hW1 HP1 HP2 hf1 hf2 ⊢
  have Hn := Lib.hid hn
  have Hm := Lib.hid hm
  have HW1 := Lib.hid hW1
  have Hb1 := Lib.hid hb1
  obtain ⟨f0, f1, f2, f3, f4⟩ := hf1
  obtain ⟨g0, g1, g2, g3, g4⟩ := hf2
  have hns := neq_span
  have hni := neq_ins
  clear hn hm hW1 hb1 hc hc' hp hp'
  go_enter Tryd.func30, Tryd.ntmps30
  go_upto_block 1 with (fail)
  go_wp2_with fail
  rw [← HW1.out]
  go_loopw [5] (fun i wr => ∃ k : Nat, k ≤ m ∧ i = .int .i64 k ∧ ∃ q, wr = W1.drewN q) (fun i _ => m - (intOf i).toNat)
  case atStart => exact ⟨0, Nat.zero_le _, rfl, 0, rfl⟩
  case round =>
    obtain ⟨k, hk, rfl, q, rfl⟩ := hrel
    by_cases hkm : k < m
    · obtain ⟨b3, o3, rfl, -, d1, d2⟩ := SpansIn.cell HP1.out (k := k) (by rw [← Hm.out]; exact hkm)
      obtain ⟨b4, o4, rfl, -, e1, e2⟩ := SpansIn.cell HP2.out (k := k) (by rw [← Hm.out]; exact hkm)
      generalize (params.getD k ⟨0, 0⟩).lo = y1 at d1 e1
      generalize (params.getD k ⟨0, 0⟩).hi = y2 at d2 e2
      go_wp2_with (go_quiet (fail))
      go_roundw
      case rel => exact ⟨k + 1, by omega, by go_num, _, rfl⟩
      case measure => simp [intOf]; omega
    · obtain rfl : k = m := by omega
      clear hk hkm
      go_wp2_with fail
      go_loopw [6] (fun i wr => ∃ j : Nat, j ≤ n ∧ i = .int .i64 j ∧ ∃ q, wr = W1.drewN q) (fun i _ => n - (intOf i).toNat)
      case atStart => exact ⟨0, Nat.zero_le _, rfl, q, rfl⟩
      case round =>
        obtain ⟨j, hj, rfl, q2, rfl⟩ := hrel
        by_cases hjn : j < n
        · obtain ⟨b3, o3, rfl, -, d1, d2, d3, d4, d5⟩ := CodeIn.cell HC1.out (k := j) (by rw [← Hn.out]; exact hjn)
          obtain ⟨b4, o4, rfl, -, e1, e2, e3, e4, e5⟩ := CodeIn.cell HC2.out (k := j) (by rw [← Hn.out]; exact hjn)
          generalize code[j] = y at d1 d2 d3 d4 d5 e1 e2 e3 e4 e5
          obtain ⟨y1, y2, y3, y4, y5⟩ := y
          simp only at d1 d2 d3 d4 d5 e1 e2 e3 e4 e5
          go_wp2_with (go_quiet (fail))
          go_roundw
          case rel => exact ⟨j + 1, by omega, by go_num, _, rfl⟩
          case measure => simp [intOf]; omega
        · obtain rfl : j = n := by omega
          clear hj hjn
          go_wp2_with fail
          go_ret
          exact ⟨rfl, below_drewN Hb1.out _⟩

/-- A module of one function and no thresholds. -/
abbrev modV (vt : Value) (vf : Value) : Value := .agg #[vt, vf]

set_option maxRecDepth 100000 in
set_option maxHeartbeats 1000000 in
theorem same_true (s : ByteArray) (vp vp' : Value) (regs words : Int) (vc vc' : Value) (params : List Span) (code : List Ins) (w : World) (hlen : code.length * 40 ≤ 140737488351232) (hplen : params.length * 16 ≤ 140737488351232)
    (hc : CodeIn w vc code) (hp : SpansIn w vp params) (hc' : CodeIn w vc' code) (hp' : SpansIn w vp' params) (ba bb : Nat) (ha : FnAt w ba s vp regs words vc) (hb : FnAt w bb s vp' regs words vc') (hba : ba < w.heap.size) (hbb : bb < w.heap.size) :
    Calls Tryd.prog 11 #[modV (.slice none 0 0) (.slice (some ⟨ba, 0, none⟩) 1 1), modV (.slice none 0 0) (.slice (some ⟨bb, 0, none⟩) 1 1)] w (Gives (.bool true) w) := by
  have hb1 : Below w.heap.size w ((w.alloc (.cells #[.slice none 0 0, .slice (some ⟨ba, 0, none⟩) 1 1] 36)).alloc (.cells #[.slice none 0 0, .slice (some ⟨bb, 0, none⟩) 1 1] 36)) := ((Below.refl _ _).alloc (Nat.le_refl _) _).alloc (by (try simp only [World.size_alloc]); (try simp only [size_set]); omega) _
  obtain ⟨W1, hW1⟩ : ∃ W1 : World, W1 = (w.alloc (.cells #[.slice none 0 0, .slice (some ⟨ba, 0, none⟩) 1 1] 36)).alloc (.cells #[.slice none 0 0, .slice (some ⟨bb, 0, none⟩) 1 1] 36) := ⟨_, rfl⟩
  rw [← hW1] at hb1
  have HC1 : Hid (CodeIn W1 vc code) := SliceIn.later hc hb1
  have HC2 : Hid (CodeIn W1 vc' code) := SliceIn.later hc' hb1
  have HP1 : Hid (SpansIn W1 vp params) := SliceIn.later hp hb1
  have HP2 : Hid (SpansIn W1 vp' params) := SliceIn.later hp' hb1
  obtain ⟨f0, f1, f2, f3, f4⟩ := ha.later hb1 hba
  obtain ⟨g0, g1, g2, g3, g4⟩ := hb.later hb1 hbb
  have m0 : W1.cell? ⟨w.heap.size, 0, none⟩ = some (.slice none 0 0) := by rw [hW1, World.cell?_alloc_past _ _ _ (by (try simp only [World.size_alloc]); (try simp only [size_set]); omega), World.cell?_alloc_at _ _ _ _ rfl]; rfl
  have m1 : W1.cell? ⟨w.heap.size, 1, none⟩ = some (.slice (some ⟨ba, 0, none⟩) 1 1) := by rw [hW1, World.cell?_alloc_past _ _ _ (by (try simp only [World.size_alloc]); (try simp only [size_set]); omega), World.cell?_alloc_at _ _ _ _ rfl]; rfl
  have m2 : W1.cell? ⟨w.heap.size + 1, 0, none⟩ = some (.slice none 0 0) := by rw [hW1, World.cell?_alloc_at _ _ _ _ (by simp)]; rfl
  have m3 : W1.cell? ⟨w.heap.size + 1, 1, none⟩ = some (.slice (some ⟨bb, 0, none⟩) 1 1) := by rw [hW1, World.cell?_alloc_at _ _ _ _ (by simp)]; rfl
  have hsz : w.heap.size + 1 < W1.heap.size := by rw [hW1]; simp
  have HW1 := Lib.hid hW1
  have Hb1 := Lib.hid hb1
  have Hlen := Lib.hid hlen
  have Hplen := Lib.hid hplen
  clear hW1 hb1 hc hc' hp hp' ha hb hlen hplen
  go_enter Tryd.func11, Tryd.ntmps11
  go_wp2_with fail
  rw [← HW1.out]
  go_loopw [5] (fun i wr => i = .int .i64 0 ∧ wr = W1) (fun _ _ => 0)
  case atStart => exact ⟨rfl, rfl⟩
  case round =>
    obtain ⟨rfl, rfl⟩ := hrel
    obtain ⟨W1, rfl⟩ : ∃ W1 : World, W1 = wr := ⟨_, rfl⟩
    go_wp2_with fail
    go_loopw [6, 7] (fun i _ wx => (i = .int .i64 0 ∧ wx = W1) ∨ (i = .int .i64 1 ∧ Below W1.heap.size W1 wx)) (fun i _ _ => 1 - (intOf i).toNat)
    case atStart => exact .inl ⟨rfl, rfl⟩
    case round =>
      rcases hrel with ⟨rfl, rfl⟩ | ⟨rfl, hb⟩
      · have HdC1 : Hid (CodeIn wr.drew vc code) := SliceIn.later HC1.out (Below.refl _ _).drew
        have HdC2 : Hid (CodeIn wr.drew vc' code) := SliceIn.later HC2.out (Below.refl _ _).drew
        have HdP1 : Hid (SpansIn wr.drew vp params) := SliceIn.later HP1.out (Below.refl _ _).drew
        have HdP2 : Hid (SpansIn wr.drew vp' params) := SliceIn.later HP2.out (Below.refl _ _).drew
        go_wp2_with fail
        go_still_tail 10, (by kernel_rfl)
        change wpList _ _ _ _ _ wr.drew
        go_wp2_with fail
        refine (sameFunc_true s vp vp' regs words vc vc' params code _ Hlen.out Hplen.out HdC1.out HdP1.out HdC2.out HdP2.out).mono ?_
        rintro e w2 ⟨rfl, hb2⟩
        have Hb2 : Hid (Below wr.heap.size wr w2) := (Below.refl _ _).drew.trans hb2
        clear hb2
        go_wp2_with fail
        go_roundw
        case rel => exact .inr ⟨rfl, Hb2.out⟩
        case measure => simp [intOf]
      · have Hb := Lib.hid hb
        have l0 := (hb.cell (p := ⟨w.heap.size, 1, none⟩) (by show w.heap.size < _; omega)).trans m1
        clear hb
        go_wp2_with fail
        go_ret
        exact ⟨rfl, Hb1.out.trans (Hb.out.mono (by omega))⟩
end Go.Proofs.YtapjdndcnenadaaDoor
