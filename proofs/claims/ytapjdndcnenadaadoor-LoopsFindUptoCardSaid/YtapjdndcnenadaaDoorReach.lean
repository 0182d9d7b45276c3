/- flow.Reach: it returns, in new memory, the list of what can be reached. -/
import Derived.Test.YtapjdndcnenadaaDoorPlain
namespace Go.Proofs.YtapjdndcnenadaaDoor
open Go.RowKit

def RetBools (l : List Bool) (w : World) (e : Ending) (w' : World) : Prop := ∃ v, e = .returned v ∧ OwnBools w' w.heap.size v l ∧ Below w.heap.size w w'

/-- The five cells of a function that lies in block k. -/
structure FnAt (w : World) (k : Nat) (s : ByteArray) (vp : Value) (regs words : Int) (vc : Value) : Prop where
  c0 : w.cell? ⟨k, 0, none⟩ = some (.string s)
  c1 : w.cell? ⟨k, 1, none⟩ = some vp
  c2 : w.cell? ⟨k, 2, none⟩ = some (.int .i64 regs)
  c3 : w.cell? ⟨k, 3, none⟩ = some (.int .i64 words)
  c4 : w.cell? ⟨k, 4, none⟩ = some vc

theorem FnAt.box (w : World) (s : ByteArray) (vp : Value) (regs words : Int) (vc : Value) (t : TypeId) : FnAt (w.alloc (.cells #[.string s, vp, .int .i64 regs, .int .i64 words, vc] t)) w.heap.size s vp regs words vc := by
  constructor <;> (rw [World.cell?_alloc_at _ _ _ _ rfl]; rfl)
theorem FnAt.later {w w' : World} {k B : Nat} {s : ByteArray} {vp : Value} {regs words : Int} {vc : Value} (h : FnAt w k s vp regs words vc) (hb : Below B w w') (hk : k < B) : FnAt w' k s vp regs words vc :=
  ⟨(hb.cell hk).trans h.c0, (hb.cell hk).trans h.c1, (hb.cell hk).trans h.c2, (hb.cell hk).trans h.c3, (hb.cell hk).trans h.c4⟩

structure RLoop (w wr : World) (code : List Ins) (len : Nat) (s : ByteArray) (vp : Value) (regs words : Int) (vc : Value) (v : Value) (can : List Bool) (todo : List Int) : Prop where
  inv : RInv code can todo
  todo : OwnInts wr (w.heap.size + 2) v todo
  can : OwnBools wr (w.heap.size + 1) (.slice (some ⟨w.heap.size + 1, 0, none⟩) len len) can
  fn : FnAt wr w.heap.size s vp regs words vc
  below : Below w.heap.size w wr
  size : w.heap.size + 2 ≤ wr.heap.size

set_option maxRecDepth 100000 in
set_option maxHeartbeats 1000000 in
theorem reach_in (s : ByteArray) (vp : Value) (regs words : Int) (vc : Value) (code : List Ins) (w : World) (hh : hasB code = true) (hc : CodeIn w vc code) :
    Calls Tryd.prog 35 #[fnV s vp regs words vc] w (RetBools (reachL code (-1)) w) := by
  have hpos : 0 < code.length ∧ code.length ≤ 1024 := by simpa [hasB] using hh
  have hc0 := hc
  obtain ⟨-, ca, cap, rfl, -⟩ := hc0
  have Hc := Lib.hid hc
  clear hc
  obtain ⟨len, hl⟩ : ∃ len, len = code.length := ⟨_, rfl⟩
  rw [← hl] at hpos ⊢
  obtain ⟨hp0, hp1⟩ := hpos
  have hz : ((len : Int) == 0) = false := beq_eq_false_iff_ne.2 (by omega)
  have HH := Lib.hid hh
  have Hl := Lib.hid hl
  clear hh hl
  go_enter Tryd.func35, Tryd.ntmps35
  go_wp2_with fail
  go_step3
  go_wp2_with (at_make; refine make_bools rfl _ _ rfl (w.heap.size + 1) len rfl rfl (by omega) (by (try simp only [World.size_alloc]); (try simp only [size_set]); omega) ?_)
  intro w1 hcan hgr
  have hfn : FnAt w1 w.heap.size s vp regs words (.slice ca len cap) := (FnAt.box w s vp regs words _ _).later (Below.grown (Below.refl (w.heap.size + 1) _) hgr (by (try simp only [World.size_alloc]); (try simp only [size_set]); omega) (by intro k hk; cases hk)) (Nat.lt_succ_self _)
  have hbl : Below w.heap.size w w1 := Below.grown ((Below.refl _ _).alloc (Nat.le_refl _) _) hgr (by (try simp only [World.size_alloc]); (try simp only [size_set]); omega) (by intro k hk; cases hk)
  have hsz : w.heap.size + 2 ≤ w1.heap.size := by
    have := (World.ownsRow.lt hcan _ rfl).2; simp at this; omega
  have Hcan := Lib.hid hcan
  have Hfn := Lib.hid hfn
  have Hbl := Lib.hid hbl
  clear hcan hgr hfn hbl
  go_wp2_with fail
  go_step3
  go_wp2_with fail
  go_loopg [4, 5] (1 + 3 * len) (fun g v _ wr => ∃ can todo, g = todo.length + 3 * can.count false ∧ RLoop w wr code len s vp regs words (.slice ca len cap) v can todo)
  case atStart =>
    refine ⟨List.replicate len false, [0], by simp, ?_, ?_, ?_, ?_, ?_, ?_⟩
    · rw [Hl.out]; exact RInv.start (by rw [← Hl.out]; omega)
    · have := owns_new w1 (B := w.heap.size + 2) (e := 3) 1 (intVs [0]) (by omega) rfl (by decide)
      exact this
    · exact Hcan.out.alloc _
    · exact Hfn.out.later ((Below.refl _ _).alloc (Nat.le_refl _) _) (by omega)
    · exact Hbl.out.alloc (by omega) _
    · simp; omega
  case round =>
    obtain ⟨can, todo, hg, hL⟩ := hrel
    have hcl : can.length = len := by rw [hL.inv.len, Hl.out]
    have Hcl := Lib.hid hcl
    have Hg := Lib.hid hg
    have HL := Lib.hid hL
    clear hcl hg hL
    rcases snoc_cases todo with rfl | ⟨t, x, rfl⟩
    · have hn : u4 = .slice none 0 0 ∨ ∃ g c, u4 = .slice (some ⟨g, 0, none⟩) 0 c := by
        rcases HL.out.todo.form with ⟨h, _⟩ | ⟨g, c, h, _⟩
        · exact Or.inl h
        · exact Or.inr ⟨g, c, h⟩
      have Hfin : Hid (reachL code (-1) = can) := (RInv.done HH.out HL.out.inv).symm
      rcases hn with rfl | ⟨g, c, rfl⟩
      all_goals
        go_wp2_with fail
        rw [Exit.noGoto_ret]
        go_ret
        refine ⟨_, rfl, ?_, HL.out.below⟩
        rw [Hfin.out]
        exact ownsRow_mono HL.out.can (by omega)
    · obtain ⟨hx0, hx1, _⟩ := HL.out.inv.pend x (by simp)
      obtain ⟨k, rfl⟩ := Int.eq_ofNat_of_zero_le hx0
      have hkl : k < len := by rw [Hl.out]; omega
      have hsm := HL.out.inv.small
      simp only [List.length_append, List.length_singleton] at hsm
      have hlc := Hl.out
      have hform : ∃ g4 c4, u4 = .slice (some ⟨g4, 0, none⟩) (t.length + 1) c4 ∧ w.heap.size + 2 ≤ g4 ∧ g4 < wr.heap.size ∧ t.length + 1 ≤ c4 := by
        rcases HL.out.todo.form with ⟨_, h⟩ | ⟨g, c, h, h2⟩
        · simp at h
        · exact ⟨g, c, by simpa using h, by simpa using h2⟩
      obtain ⟨g4, c4, rfl, hg4, hg4s, hc4⟩ := hform
      have hcx : wr.cell? ⟨g4, t.length, none⟩ = some (.int .i64 (k : Int)) := by
        have := HL.out.todo.cell (k := t.length) (by simp)
        simpa [List.getD] using this
      have hown := OwnInts.pop HL.out.todo rfl
      have hck : wr.cell? ⟨w.heap.size + 1, k, none⟩ = some (.bool (can.getD k false)) := HL.out.can.cell (by rw [Hcl.out]; exact hkl)
      have hfz : wr.frozen? ⟨w.heap.size + 1, k, none⟩ = false := HL.out.can.free k
      obtain ⟨n, hn⟩ : ∃ n, n = t.length := ⟨_, rfl⟩
      rw [← hn] at hcx hown hsm hc4 ⊢
      obtain ⟨m, hm⟩ : ∃ m, m = n + 1 := ⟨_, rfl⟩
      rw [← hm] at hc4 ⊢
      have hm1 : m - 1 = n := by omega
      rw [← hm1] at hcx
      have hm0 : 0 < m := by omega
      have hm9 : m ≤ 4000 := by omega
      have Hn := Lib.hid hn
      have Hm := Lib.hid hm
      have Hown := Lib.hid hown
      clear hn hm hm1 hown hsm hlc hx1 hx0
      cases hb : can.getD k false
      · have Hb := Lib.hid hb
        rw [hb] at hck
        clear hb
        obtain ⟨f0, f1, f2, f3, f4⟩ := HL.out.fn
        have hb2 : Below w.heap.size w (wr.setCell ⟨w.heap.size + 1, k, none⟩ (.bool true)) := HL.out.below.setCell (by show w.heap.size ≤ w.heap.size + 1; omega) _
        have hcode : CodeIn (wr.setCell ⟨w.heap.size + 1, k, none⟩ (.bool true)) (.slice ca len cap) code := by rw [Hl.out]; exact SliceIn.later Hc.out hb2
        have hlen : code.length * 40 ≤ 140737488351232 := by rw [← Hl.out]; omega
        have hown2 : OwnInts (wr.setCell ⟨w.heap.size + 1, k, none⟩ (.bool true)) (w.heap.size + 2) (.slice (some ⟨g4, 0, none⟩) n c4) t := ownsRow_setCell_below Hown.out (by show w.heap.size + 1 < _; omega) _
        have hfn2 : FnAt (wr.setCell ⟨w.heap.size + 1, k, none⟩ (.bool true)) w.heap.size s vp regs words (.slice ca len cap) := HL.out.fn.later ((Below.refl (w.heap.size + 1) _).setCell (Nat.le_refl _) _) (Nat.lt_succ_self _)
        have hcan2 := OwnBools.store HL.out.can k true
        have hinv := HL.out.inv.mark Hb.out
        have hsz2 := HL.out.size
        rw [show n = m - 1 by have := Hm.out; omega] at hown2
        have Hb2 := Lib.hid hb2
        have Hcode := Lib.hid hcode
        have Hlen := Lib.hid hlen
        have Hown2 := Lib.hid hown2
        have Hfn2 := Lib.hid hfn2
        have Hcan2 := Lib.hid hcan2
        have Hinv := Lib.hid hinv
        have Hb3 : Hid (t.length + (nextL code k).length + 3 * (can.set k true).count false < gk ∧ t.length ≤ 4000) := by
          have h1 := count_set (l := can) (i := k) (by rw [Hcl.out]; exact hkl) Hb.out
          have h2 := nextL_len code k
          have h3 := Hg.out
          have h4 := Hm.out
          have h5 := Hn.out
          simp at h3
          exact ⟨by omega, by omega⟩
        have hsame : (wr.setCell ⟨w.heap.size + 1, k, none⟩ (.bool true)).heap.size = wr.heap.size := by simp [World.setCell]
        have Hsame := Lib.hid hsame
        clear hsame
        clear hb2 hcode hlen hown2 hfn2 hcan2 hinv
        go_wp2_with fail
        refine (next_any _ _ _ _ _ code _ _ Hlen.out Hcode.out).mono ?_
        rintro e w2 ⟨v2, rfl, hv2, hbw⟩
        have hW : Below w.heap.size w w2 := Hb2.out.trans (hbw.mono (by rw [Hsame.out]; omega))
        have hown3 := ownsRow_below Hown2.out hbw (Nat.le_refl _)
        have hcan3 := ownsRow_below Hcan2.out hbw (Nat.le_refl _)
        have hfn3 := Hfn2.out.later hbw (by rw [Hsame.out]; omega)
        have hsz3 : w.heap.size + 2 ≤ w2.heap.size := by have := hbw.size; rw [Hsame.out] at this; omega
        have hsrc := SliceIn.of_owns hv2
        have HW := Lib.hid hW
        have Hown3 : Hid (OwnInts w2 (w.heap.size + 2) (.slice (some ⟨g4, 0, none⟩) (m - 1) c4) t) := hown3
        have Hcan3 : Hid (OwnBools w2 (w.heap.size + 1) (.slice (some ⟨w.heap.size + 1, 0, none⟩) len len) (can.set k true)) := hcan3
        have Hfn3 := Lib.hid hfn3
        have Hsrc : Hid (IntsIn w2 v2 (nextL code k)) := hsrc
        have Hlen3 : Hid (t.length + (nextL code k).length ≤ 1000000000000) := by have := nextL_len code k; have := Hb3.out.2; show _ ≤ _; omega
        clear hW hown3 hcan3 hfn3 hsrc hv2 hbw
        go_wp2_with (at_builtin; refine append_ints rfl _ _ rfl (w.heap.size + 2) _ t rfl Hown3.out _ _ rfl Hsrc.out Hlen3.out hsz3 ?_)
        intro v4 w4 ho4 hg4 hf4 hb4
        have HL4 : Hid (RLoop w w4 code len s vp regs words (.slice ca len cap) v4 (can.set k true) (t ++ nextL code k)) := by
          have hbS : Below (w.heap.size + 1) w2 w4 := hb4 _ _ (Below.refl _ _) (by omega)
          refine ⟨Hinv.out, ho4, ?_, Hfn3.out.later hbS (by omega), hb4 _ _ HW.out (by omega), Nat.le_trans hsz3 hg4.size⟩
          exact Hcan3.out.kept hg4 (Or.inr (by simp [Value.ownBlock]; omega))
        clear ho4 hg4 hf4 hb4
        go_wp2_with fail
        go_roundg ((t ++ nextL code k).length + 3 * (can.set k true).count false)
        case measure => have := Hb3.out.1; simp; omega
        case rel => exact ⟨_, _, rfl, HL4.out⟩
      · have Hb := Lib.hid hb
        rw [hb] at hck
        clear hb
        go_wp2_with fail
        go_roundg (t.length + 3 * can.count false)
        case measure => have := Hg.out; simp at this; omega
        case rel =>
          refine ⟨can, t, rfl, HL.out.inv.skip Hb.out, ?_, HL.out.can, HL.out.fn, HL.out.below, HL.out.size⟩
          have hm := Hm.out
          have : m - 1 = n := by omega
          rw [this]
          exact Hown.out

set_option maxHeartbeats 400000 in
theorem reach_any (s : ByteArray) (vp : Value) (regs words : Int) (vc : Value) (code : List Ins) (w : World) (hlen : code.length * 40 ≤ 140737488351232) (hc : CodeIn w vc code) :
    Calls Tryd.prog 35 #[fnV s vp regs words vc] w (RetBools (reachL code (-1)) w) := by
  cases hh : hasB code
  · have e : reachL code (-1) = [] := by unfold reachL; simp [hh]
    rw [e]
    obtain ⟨-, ca, cap, rfl, -⟩ := hc
    have hh' : ¬ (0 < code.length ∧ code.length ≤ 1024) := by simpa [hasB] using hh
    clear hh e
    generalize code.length = len at *
    by_cases h0 : len = 0
    · have hz : ((len : Int) == 0) = true := beq_iff_eq.2 (by omega)
      clear h0 hh'
      go_enter Tryd.func35, Tryd.ntmps35
      go_wp2_with fail
      go_step3
      go_wp2_with fail
      rw [Exit.noGoto_ret]
      go_ret
      exact ⟨_, rfl, World.ownsRow_nil _ _ _ _, (Below.refl _ _).alloc (Nat.le_refl _) _⟩
    · have hz : ((len : Int) == 0) = false := beq_eq_false_iff_ne.2 (by omega)
      have hb : 1024 < len := by omega
      clear h0 hh'
      go_enter Tryd.func35, Tryd.ntmps35
      go_wp2_with fail
      go_step3
      go_wp2_with fail
      rw [Exit.noGoto_ret]
      go_ret
      exact ⟨_, rfl, World.ownsRow_nil _ _ _ _, (Below.refl _ _).alloc (Nat.le_refl _) _⟩
  · exact reach_in s vp regs words vc code w hh hc
end Go.Proofs.YtapjdndcnenadaaDoor
