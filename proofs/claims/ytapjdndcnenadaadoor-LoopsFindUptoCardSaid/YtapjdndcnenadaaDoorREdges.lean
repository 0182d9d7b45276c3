/- The reference's Edges: all edges, in new memory. -/
import Derived.Test.YtapjdndcnenadaaDoorEdges
import Derived.Test.YtapjdndcnenadaaDoorWithout
namespace Go.Proofs.YtapjdndcnenadaaDoor
open Go.RowKit

theorem Tryd.infoEdge : (Tryd.prog.info? 49).map (fun i => (i.zero, i.size, i.bytes)) = some (some (.agg #[.int .i64 0, .int .i64 0]), 2, 16) := by kernel_rfl
def edgeVs (l : List Edge) : List Value := l.flatMap fun e => [.int .i64 e.1, .int .i64 e.2]
def OwnEdges (w : World) (B : Nat) (v : Value) (l : List Edge) : Prop := w.ownsRow B 49 2 v l.length (edgeVs l)
def EdgesIn (w : World) (v : Value) (l : List Edge) : Prop := SliceIn w v l.length 2 (edgeVs l)
def RetEdges (l : List Edge) (w : World) (e : Ending) (w' : World) : Prop := ∃ v, e = .returned v ∧ OwnEdges w' w.heap.size v l ∧ Below w.heap.size w w'

theorem edgeVs_get (l : List Edge) (k : Nat) : (edgeVs l)[k * 2]? = (l[k]?).map (fun e => .int .i64 e.1) ∧ (edgeVs l)[k * 2 + 1]? = (l[k]?).map (fun e => .int .i64 e.2) := by
  induction l generalizing k with
  | nil => simp [edgeVs]
  | cons x l ih =>
    have e : edgeVs (x :: l) = [.int .i64 x.1, .int .i64 x.2] ++ edgeVs l := by simp [edgeVs]
    rw [e]
    cases k with
    | zero => simp
    | succ k =>
      have := ih k
      rw [show (k + 1) * 2 = k * 2 + 2 by omega, show k * 2 + 2 + 1 = (k * 2 + 1) + 2 by omega]
      simpa using this

theorem EdgesIn.cell {w : World} {a : Option Addr} {n cap : Nat} {l : List Edge} (h : EdgesIn w (.slice a n cap) l) {k : Nat} (hk : k < l.length) :
    ∃ b off, a = some ⟨b, off, none⟩ ∧ b < w.heap.size ∧ w.cell? ⟨b, off + k * 2, none⟩ = some (.int .i64 (l.getD k (0, 0)).1) ∧ w.cell? ⟨b, off + k * 2 + 1, none⟩ = some (.int .i64 (l.getD k (0, 0)).2) := by
  obtain ⟨_, a', cap', hv, _, _, _, hc⟩ := h
  cases hv
  obtain ⟨b, off, rfl, hb, hc⟩ := hc (by omega)
  obtain ⟨e1, e2⟩ := edgeVs_get l k
  refine ⟨b, off, rfl, hb, ?_, ?_⟩
  · refine hc _ _ ?_
    rw [e1]; simp [List.getD, hk]
  · rw [Nat.add_assoc]
    refine hc _ _ ?_
    rw [e2]; simp [List.getD, hk]

/-- 'out = append(out, Edge{..})'. -/
theorem append_edge {ops : Array Oper} {rest : List Oper} {o : Oper} {a : Act} {Q : Exit → Act → World → Prop} {w : World} (hgd : o.guard = none) (s x : Operand)
    (ho : o.op = .call { callee := .builtin .append, args := #[s, x], argTypes := #[46, 46] })
    (B : Nat) (v : Value) (l : List Edge) (hs : a.eval s = v) (hown : OwnEdges w B v l) (p q : Int) (hx : a.eval x = .slice (some ⟨w.heap.size, 0, none⟩) 1 1)
    (hl : l.length ≤ 1000000000000) (hB : B ≤ w.heap.size)
    (h : ∀ v' w', OwnEdges w' B v' (l ++ [(p, q)]) → (w.alloc (.cells #[.int .i64 p, .int .i64 q] 49)).grownBy w' v.ownBlock → Fresh (w.alloc (.cells #[.int .i64 p, .int .i64 q] 49)) v v' → (∀ C w0, Below C w0 w → C ≤ B → Below C w0 w') → wpList Tryd.prog ops Q rest (a.put o.dst v') w') :
    wpList Tryd.prog ops Q (o :: rest) a (w.alloc (.cells #[.int .i64 p, .int .i64 q] 49)) := by
  refine append_gen hgd s x 46 ho Tryd.underlying46 Tryd.infoEdge rfl (by decide) B v l.length (edgeVs l) hs (World.ownsRow.alloc hown _) _ 1 [.int .i64 p, .int .i64 q] hx (sliceIn_new w [.int .i64 p, .int .i64 q] 1 2 49 rfl (by decide)) ?_ ?_ ?_ ?_ ?_
  · intro u hu; simp at hu; rcases hu with rfl | rfl <;> rfl
  · unfold maxLen; omega
  · omega
  · simp; omega
  · intro v' w' h1 h2 h3 h4
    exact h v' w' (by unfold OwnEdges edgeVs at *; simpa using h1) h2 h3 fun C w0 hb hC => h4 C w0 (hb.alloc (by omega) _) hC

theorem OwnEdges.form {w : World} {B : Nat} {v : Value} {l : List Edge} (h : OwnEdges w B v l) : (v = .slice none 0 0 ∧ l = []) ∨ ∃ g cap, v = .slice (some ⟨g, 0, none⟩) l.length cap ∧ B ≤ g ∧ g < w.heap.size ∧ l.length ≤ cap := by
  rcases h.2 with ⟨h1, h2⟩ | ⟨g, cap, cur, h1, h2, h3, h4, _⟩
  · exact Or.inl ⟨h1, List.eq_nil_of_length_eq_zero h2⟩
  · exact Or.inr ⟨g, cap, h1, h2, (Array.getElem?_eq_some_iff.1 h3).1, h4⟩

set_option maxRecDepth 100000 in
set_option maxHeartbeats 1000000 in
theorem redges_any (s : ByteArray) (vp : Value) (regs words : Int) (vc : Value) (code : List Ins) (w : World) (hlen : code.length * 40 ≤ 140737488351232) (hc : CodeIn w vc code) :
    Calls Tryd.prog 15 #[fnV s vp regs words vc] w (RetEdges (edgesL code) w) := by
  have Hc := Lib.hid hc
  have Hlen := Lib.hid hlen
  have hc1 : CodeIn (w.alloc (.cells #[.string s, vp, .int .i64 regs, .int .i64 words, vc] 25)) vc code := SliceIn.later hc ((Below.refl _ _).alloc (Nat.le_refl _) _)
  have Hc1 := Lib.hid hc1
  clear hc hlen hc1
  go_enter Tryd.func15, Tryd.ntmps15
  go_wp2_with fail
  refine (rreach_any s vp regs words vc code _ Hlen.out Hc1.out).mono ?_
  rintro e w1 ⟨v8, rfl, hv8, hb1⟩
  have hfn : FnAt w1 w.heap.size s vp regs words vc := (FnAt.box w s vp regs words vc _).later hb1 (by simp)
  have hbl : Below w.heap.size w w1 := ((Below.refl _ _).alloc (Nat.le_refl _) _).trans (hb1.mono (by simp))
  have hsz : w.heap.size < w1.heap.size := by have := hb1.size; simp at this; omega
  obtain ⟨can, hcan⟩ : ∃ can, can = reachL code (-1) := ⟨_, rfl⟩
  rw [← hcan] at hv8
  obtain ⟨a8, c8, rfl, hc8⟩ : ∃ a8 c8, v8 = .slice a8 can.length c8 ∧ (0 < can.length → ∃ g, a8 = some ⟨g, 0, none⟩) := by
    rcases hv8.form with ⟨h, h2⟩ | ⟨g, c, h, _⟩
    · exact ⟨none, 0, by rw [h, h2]; rfl, by rw [h2]; simp⟩
    · exact ⟨_, _, h, fun _ => ⟨g, rfl⟩⟩
  obtain ⟨nR, hnR⟩ : ∃ nR, nR = can.length := ⟨_, rfl⟩
  rw [← hnR] at hc8 hv8 ⊢
  have hnb : nR ≤ 1024 := by
    rw [hnR, hcan, reachL_length]; split
    · rename_i h; simp [hasB] at h; exact h.2
    · omega
  have hv8' : OwnBools w1 w.heap.size (.slice a8 nR c8) can := ownsRow_mono hv8 (by simp)
  have HnR := Lib.hid hnR
  have Hcan := Lib.hid hcan
  have Hv8 := Lib.hid hv8'
  have Hfn := Lib.hid hfn
  have Hbl := Lib.hid hbl
  clear hnR hcan hv8 hv8' hfn hbl hb1
  go_wp2_with fail
  go_loopg [4, 5, 6, 7] nR (fun g out u _ _ wr => ∃ q : Nat, q ≤ nR ∧ g = nR - q ∧ u = .int .i64 q ∧ OwnEdges wr w1.heap.size out (edgesTo code can q) ∧ Below w1.heap.size w1 wr)
  case atStart => exact ⟨0, Nat.zero_le _, rfl, rfl, owns_empty w1 _ _ (Nat.le_refl _), (Below.refl _ _).alloc (Nat.le_refl _) _⟩
  case round =>
    obtain ⟨q, hq, hg, rfl, hown, hbr⟩ := hrel
    have Hg := Lib.hid hg
    have Hown := Lib.hid hown
    have Hbr := Lib.hid hbr
    clear hg hown hbr
    by_cases hqn : q < nR
    · obtain ⟨g8, rfl⟩ := hc8 (by omega)
      have hcq : wr.cell? ⟨g8, q, none⟩ = some (.bool (can.getD q false)) := OwnBools.cell (ownsRow_below Hv8.out Hbr.out (Nat.le_refl _)) (by rw [← HnR.out]; exact hqn)
      cases hb : can.getD q false
      · rw [hb] at hcq
        have Hb := Lib.hid hb
        clear hb
        go_wp2_with fail
        go_roundg (nR - (q + 1))
        case measure => have := Hg.out; omega
        case rel => exact ⟨q + 1, hqn, rfl, by go_num, by rw [edgesTo_skip Hb.out]; exact Hown.out, Hbr.out⟩
      · rw [hb] at hcq
        have Hb := Lib.hid hb
        clear hb
        obtain ⟨f0, f1, f2, f3, f4⟩ := Hfn.out.later Hbr.out hsz
        have hcode : CodeIn wr vc code := SliceIn.later Hc.out (Hbl.out.trans (Hbr.out.mono (by omega)))
        have Hcode := Lib.hid hcode
        clear hcode
        go_wp2_with fail
        refine (rnext_any s vp regs words vc code _ _ Hlen.out Hcode.out).mono ?_
        rintro e w2 ⟨v9, rfl, hv9, hb2⟩
        have hbr2 : Below w1.heap.size w1 w2 := Hbr.out.trans (hb2.mono Hbr.out.size)
        have hown2 : OwnEdges w2 w1.heap.size u4 (edgesAt code can q 0) := by rw [edgesAt_zero]; exact ownsRow_below Hown.out hb2 (Nat.le_refl _)
        have hap : ∀ k, v9.ownBlock = some k → u4.ownBlock ≠ some k := by
          intro k hk h4
          have h1 := (World.ownsRow.lt hv9 k hk).1
          have h2 := (World.ownsRow.lt Hown.out k h4).2
          omega
        obtain ⟨ln, hln⟩ : ∃ ln, ln = nextL code q := ⟨_, rfl⟩
        rw [← hln] at hv9
        have hv9' : OwnInts w2 0 v9 ln := ownsRow_mono hv9 (Nat.zero_le _)
        obtain ⟨a9, c9, rfl, hc9⟩ : ∃ a9 c9, v9 = .slice a9 ln.length c9 ∧ (0 < ln.length → ∃ g, a9 = some ⟨g, 0, none⟩) := by
          rcases hv9.form with ⟨h, h2⟩ | ⟨g, c, h, _⟩
          · exact ⟨none, 0, by rw [h, h2]; rfl, by rw [h2]; simp⟩
          · exact ⟨_, _, h, fun _ => ⟨g, rfl⟩⟩
        obtain ⟨nL, hnL⟩ : ∃ nL, nL = ln.length := ⟨_, rfl⟩
        rw [← hnL] at hc9 hv9' hap ⊢
        have hn2 : nL ≤ 2 := by rw [hnL, hln]; exact nextL_len _ _
        have Hln := Lib.hid hln
        have HnL := Lib.hid hnL
        have Hbr2 := Lib.hid hbr2
        have Hown2 := Lib.hid hown2
        have Hap := Lib.hid hap
        have Hv9 := Lib.hid hv9'
        clear hln hnL hbr2 hown2 hap hv9 hv9' hb2 f0 f1 f2 f3 f4 Hcode hcq
        go_wp2_with fail
        go_loopg [4, 7] nL (fun g out k wx => ∃ j : Nat, j ≤ nL ∧ g = nL - j ∧ k = .int .i64 j ∧ OwnEdges wx w1.heap.size out (edgesAt code can q j) ∧ Below w1.heap.size w1 wx ∧ OwnInts wx 0 (.slice a9 nL c9) ln ∧
          (∀ k, (Value.slice a9 nL c9).ownBlock = some k → out.ownBlock ≠ some k))
        case atStart => exact ⟨0, Nat.zero_le _, rfl, rfl, Hown2.out, Hbr2.out, Hv9.out, Hap.out⟩
        case round =>
          obtain ⟨j, hj, hg2, rfl, hoj, hbj, hvj, haj⟩ := hrel
          have Hg2 := Lib.hid hg2
          have Hoj := Lib.hid hoj
          have Hbj := Lib.hid hbj
          have Hvj := Lib.hid hvj
          have Haj := Lib.hid haj
          clear hg2 hoj hbj hvj haj Hown2 Hbr2 Hv9 Hap
          by_cases hjn : j < nL
          · obtain ⟨g9, rfl⟩ := hc9 (by omega)
            have hcj : wr.cell? ⟨g9, j, none⟩ = some (.int .i64 (ln.getD j 0)) := OwnInts.cell Hvj.out (by rw [← HnL.out]; exact hjn)
            obtain ⟨y, hy⟩ : ∃ y, y = ln.getD j 0 := ⟨_, rfl⟩
            rw [← hy] at hcj
            have hjL : j < (nextL code q).length := by rw [← Hln.out, ← HnL.out]; exact hjn
            have hstep : edgesAt code can q (j + 1) = edgesAt code can q j ++ [((q : Int), y)] := by rw [edgesAt_succ _ _ _ hjL, hy, Hln.out]
            have hlo : (edgesAt code can q j).length ≤ 1000000000000 := by
              have h1 := edgesTo_len code can q
              have h2 := nextL_len code q
              unfold edgesAt
              simp only [List.length_append, List.length_map, List.length_take]
              omega
            have Hstep := Lib.hid hstep
            have Hlo := Lib.hid hlo
            clear hy hstep hlo hjL
            go_wp2_with (at_builtin; refine append_edge rfl _ _ rfl w1.heap.size _ _ rfl Hoj.out _ _ rfl Hlo.out Hbj.out.size ?_)
            intro v' w' ho' hgr hfr hbb
            have hb' := hbb _ _ Hbj.out (Nat.le_refl _)
            have hv' : OwnInts w' 0 (.slice (some ⟨g9, 0, none⟩) nL c9) ln := (World.ownsRow.alloc Hvj.out _).kept hgr (Or.inr (Ne.symm (Haj.out g9 rfl)))
            have ha' : ∀ k, (Value.slice (some ⟨g9, 0, none⟩) nL c9).ownBlock = some k → v'.ownBlock ≠ some k := by
              intro k hk
              have h1 := (World.ownsRow.lt Hvj.out k hk).2
              exact hfr k (by simp; omega) (Haj.out k hk)
            have HH : Hid (OwnEdges w' w1.heap.size v' (edgesAt code can q (j + 1))) := by rw [Hstep.out]; exact ho'
            have HB' := Lib.hid hb'
            have HV' := Lib.hid hv'
            have HA' := Lib.hid ha'
            clear ho' hgr hfr hbb hb' hv' ha'
            go_wp2_with fail
            go_roundg (nL - (j + 1))
            case measure => have := Hg2.out; omega
            case rel => exact ⟨j + 1, hjn, rfl, by go_num, HH.out, HB'.out, HV'.out, HA'.out⟩
          · have hall : edgesAt code can q j = edgesTo code can (q + 1) := edgesAt_all Hb.out (by rw [← Hln.out, ← HnL.out]; omega)
            have Hall := Lib.hid hall
            clear hall
            go_wp2_with fail
            go_roundg (nR - (q + 1))
            case measure => have := Hg.out; omega
            case rel => exact ⟨q + 1, hqn, rfl, by go_num, by rw [← Hall.out]; exact Hoj.out, Hbj.out⟩
    · obtain rfl : q = nR := by omega
      go_wp2_with fail
      go_ret
      have e : edgesL code = edgesTo code can q := by rw [HnR.out, Hcan.out]; rfl
      rw [e]
      exact ⟨_, rfl, ownsRow_mono Hown.out (by omega), Hbl.out.trans (Hbr.out.mono (by omega))⟩
end Go.Proofs.YtapjdndcnenadaaDoor
