/- The reference's Has, Without and Reach. -/
import Derived.Test.YtapjdndcnenadaaDoorReach
import Derived.Test.YtapjdndcnenadaaDoorRNext
import Derived.StillTailTactics
namespace Go.Proofs.YtapjdndcnenadaaDoor
open Go.RowKit

set_option maxHeartbeats 400000 in
theorem has_any (s : ByteArray) (vp : Value) (regs words : Int) (ca : Option Addr) (cap : Nat) (code : List Ins) (w : World) (hlen : code.length * 40 ≤ 140737488351232) :
    Calls Tryd.prog 41 #[fnV s vp regs words (.slice ca code.length cap)] w (Gives (.bool (hasB code)) w) := by
  have hh : hasB code = decide (0 < code.length ∧ code.length ≤ 1024) := rfl
  rw [hh]
  clear hh
  generalize code.length = len at *
  by_cases h0 : 0 < len
  · go_enter Tryd.func41, Tryd.ntmps41
    go_wp2_with fail
    go_ret
    exact ⟨ret_bool (by simp; omega), (Below.refl _ _).alloc (Nat.le_refl _) _⟩
  · go_enter Tryd.func41, Tryd.ntmps41
    go_wp2_with fail
    go_ret
    exact ⟨ret_bool (by simp; omega), (Below.refl _ _).alloc (Nat.le_refl _) _⟩

theorem FnAt.drew {w : World} {k : Nat} {s : ByteArray} {vp : Value} {regs words : Int} {vc : Value} (h : FnAt w k s vp regs words vc) : FnAt w.drew k s vp regs words vc := ⟨h.c0, h.c1, h.c2, h.c3, h.c4⟩

structure WLoop (w wr : World) (len : Nat) (s : ByteArray) (vp : Value) (regs words : Int) (vc : Value) (c0 : Nat) (v : Value) (can : List Bool) (todo : List Int) : Prop where
  todo : OwnInts wr (c0 + 1) v todo
  can : OwnBools wr c0 (.slice (some ⟨c0, 0, none⟩) len len) can
  fn : FnAt wr w.heap.size s vp regs words vc
  below : Below w.heap.size w wr
  lt : w.heap.size < c0
  size : c0 + 1 ≤ wr.heap.size

theorem WLoop.drew {w wr : World} {len : Nat} {s : ByteArray} {vp : Value} {regs words : Int} {vc : Value} {c0 : Nat} {v : Value} {can : List Bool} {todo : List Int} (h : WLoop w wr len s vp regs words vc c0 v can todo) :
    WLoop w wr.drew len s vp regs words vc c0 v can todo := ⟨World.ownsRow.drew h.todo, World.ownsRow.drew h.can, h.fn.drew, h.below.drew, h.lt, h.size⟩

theorem WLoop.mark {w wr : World} {len : Nat} {s : ByteArray} {vp : Value} {regs words : Int} {vc : Value} {c0 : Nat} {v : Value} {can : List Bool} {todo : List Int} (h : WLoop w wr len s vp regs words vc c0 v can todo) (x : Nat) :
    WLoop w (wr.setCell ⟨c0, x, none⟩ (.bool true)) len s vp regs words vc c0 v (can.set x true) todo :=
  ⟨ownsRow_setCell_below h.todo (Nat.lt_succ_self c0) _, OwnBools.store h.can x true, h.fn.later ((Below.refl c0 _).setCell (Nat.le_refl _) _) h.lt, h.below.setCell (Nat.le_of_lt h.lt) _, h.lt, by rw [size_set]; exact h.size⟩

/-- The ways of one instruction, in memory beside the others. -/
structure WWays (w wr : World) (c0 : Nat) (v vl : Value) (l : List Int) : Prop where
  own : OwnInts wr w.heap.size vl l
  apart : ∀ k, vl.ownBlock = some k → k ≠ c0 ∧ v.ownBlock ≠ some k

set_option maxRecDepth 100000 in
set_option maxHeartbeats 1000000 in
theorem without_in (s : ByteArray) (vp : Value) (regs words : Int) (vc : Value) (code : List Ins) (gone : Int) (w : World) (hh : hasB code = true) (hg0 : gone ≠ 0) (hc : CodeIn w vc code) :
    Calls Tryd.prog 32 #[fnV s vp regs words vc, .int .i64 gone] w (RetBools (reachL code gone) w) := by
  have hpos : 0 < code.length ∧ code.length ≤ 1024 := by simpa [hasB] using hh
  have hlen : code.length * 40 ≤ 140737488351232 := by omega
  have hc0 := hc
  obtain ⟨-, ca, cap, rfl, -⟩ := hc0
  have Hc := Lib.hid hc
  have HH := Lib.hid hh
  have hgb : (gone == 0) = false := beq_eq_false_iff_ne.2 hg0
  have Hg0 := Lib.hid hg0
  have Hlen := Lib.hid hlen
  clear hc hg0 hlen
  go_enter Tryd.func32, Tryd.ntmps32
  go_wp2_with fail
  refine (has_any s vp regs words ca cap code _ Hlen.out).mono ?_
  rintro e w1 ⟨rfl, hb1⟩
  have hfn : FnAt w1 w.heap.size s vp regs words (.slice ca code.length cap) := (FnAt.box w s vp regs words _ _).later hb1 (by simp)
  have hbl : Below w.heap.size w w1 := ((Below.refl _ _).alloc (Nat.le_refl _) _).trans (hb1.mono (by simp))
  have hsz : w.heap.size < w1.heap.size := by have := hb1.size; simp at this; omega
  have Hfn := Lib.hid hfn
  have f4 := hfn.c4
  have Hbl := Lib.hid hbl
  rw [hh]
  clear hb1 hfn hbl hh
  obtain ⟨len, hl⟩ : ∃ len, len = code.length := ⟨_, rfl⟩
  rw [← hl] at hpos f4 ⊢
  obtain ⟨hp0, hp1⟩ := hpos
  have Hl := Lib.hid hl
  clear hl
  obtain ⟨c0, hc0⟩ : ∃ c0, c0 = w1.heap.size := ⟨_, rfl⟩
  go_wp2_with (at_make; refine make_bools rfl _ _ rfl w1.heap.size len rfl rfl (by omega) (Nat.le_refl _) ?_)
  intro w2 hcan hgr
  rw [← hc0] at hcan ⊢
  have hsz2 : c0 < w2.heap.size := by
    have := (World.ownsRow.lt hcan _ rfl).2; exact this
  have hbl2 : Below w.heap.size w (w2.setCell ⟨c0, 0, none⟩ (.bool true)) := (Hbl.out.grown hgr (by omega) (by intro k hk; cases hk)).setCell (by show _ ≤ c0; omega) _
  have hfn2 : FnAt (w2.setCell ⟨c0, 0, none⟩ (.bool true)) w.heap.size s vp regs words (.slice ca len cap) := by
    rw [Hl.out]
    exact Hfn.out.later (((Below.refl c0 _).grown hgr (by omega) (by intro k hk; cases hk)).setCell (Nat.le_refl _) _) (by omega)
  have hz0 : w2.cell? ⟨c0, 0, none⟩ = some (.bool false) := by
    have := OwnBools.cell hcan (k := 0) (by simp; omega)
    rw [this]; simp [List.getD, hp0]
  have hz1 : w2.frozen? ⟨c0, 0, none⟩ = false := OwnBools.free hcan 0
  have hcan2 := OwnBools.store hcan 0 true
  have hlt : w.heap.size < c0 := by omega
  have Hcan2 := Lib.hid hcan2
  have Hbl2 := Lib.hid hbl2
  have Hfn2 := Lib.hid hfn2
  clear hcan hgr hbl2 hfn2 hcan2 hc0 f4
  go_wp2_with fail
  go_loopg [6, 7, 8, 9] (len) (fun g v i _ _ wr => ∃ can todo q, i = .int .i64 ((q : Nat) : Int) ∧ g = len - q ∧ q ≤ todo.length ∧ QInv code gone can todo q 0 ∧ WLoop w wr len s vp regs words (.slice ca len cap) c0 v can todo)
  case atStart =>
    refine ⟨_, [0], 0, rfl, rfl, by simp, QInv.start (by rw [← Hl.out]; exact hp0) Hg0.out, ?_, ?_, ?_, ?_, hlt, ?_⟩
    · have := owns_new (w2.setCell ⟨c0, 0, none⟩ (.bool true)) (B := c0 + 1) (e := 3) 1 (intVs [0]) (by (try simp only [World.size_alloc]); (try simp only [size_set]); omega) rfl (by decide)
      rw [size_set] at this; exact this
    · rw [← Hl.out]; exact Hcan2.out.alloc _
    · exact Hfn2.out.later ((Below.refl _ _).alloc (Nat.le_refl _) _) (by (try simp only [World.size_alloc]); (try simp only [size_set]); omega)
    · exact Hbl2.out.alloc (by (try simp only [World.size_alloc]); (try simp only [size_set]); omega) _
    · simp only [World.size_alloc, size_set]; omega
  case round =>
    obtain ⟨can, todo, q, rfl, hg, hq, hI, hL⟩ := hrel
    have hcl : can.length = len := by rw [hI.len, Hl.out]
    have htl : todo.length ≤ len := by have := hI.count; rw [← Hl.out] at this; omega
    have Hcl := Lib.hid hcl
    have Hg := Lib.hid hg
    have HI := Lib.hid hI
    have HL := Lib.hid hL
    clear hcl hg hI hL
    by_cases hqt : q < todo.length
    · have hform : ∃ g4 c4, u6 = .slice (some ⟨g4, 0, none⟩) todo.length c4 ∧ c0 + 1 ≤ g4 ∧ g4 < wr.heap.size ∧ todo.length ≤ c4 := by
        rcases HL.out.todo.form with ⟨_, h⟩ | ⟨g, c, h, h2⟩
        · subst h; simp at hqt
        · exact ⟨g, c, h, h2⟩
      obtain ⟨g4, c4, rfl, hg4, hg4s, hc4⟩ := hform
      have hcx : wr.cell? ⟨g4, q, none⟩ = some (.int .i64 (todo.getD q 0)) := HL.out.todo.cell hqt
      obtain ⟨u, hu⟩ : ∃ u, u = todo.getD q 0 := ⟨_, rfl⟩
      rw [← hu] at hcx
      have Hu := Lib.hid hu
      clear hu
      obtain ⟨f0, f1, f2, f3, f4⟩ := HL.out.fn
      go_wp2_with fail
      go_still_tail 5, (by kernel_rfl)
      change wpList _ _ _ _ _ wr.drew
      have hcode : CodeIn wr.drew (.slice ca len cap) code := by rw [Hl.out]; exact SliceIn.later Hc.out HL.out.below.drew
      have Hcode := Lib.hid hcode
      clear hcode
      go_wp2_with fail
      refine (rnext_any _ _ _ _ _ code _ _ Hlen.out Hcode.out).mono ?_
      rintro e w3 ⟨vl, rfl, hvl, hbw⟩
      obtain ⟨ln, hln⟩ : ∃ ln, ln = nextL code u := ⟨_, rfl⟩
      rw [← hln] at hvl
      have hsd : wr.drew.heap.size = wr.heap.size := rfl
      have hLd := HL.out.drew
      have hL3 : WLoop w w3 len s vp regs words (.slice ca len cap) c0 (.slice (some ⟨g4, 0, none⟩) todo.length c4) can todo :=
        ⟨ownsRow_below hLd.todo hbw (Nat.le_refl _), ownsRow_below hLd.can hbw (Nat.le_refl _), hLd.fn.later hbw (by have := hLd.lt; have := hLd.size; omega), hLd.below.trans (hbw.mono (by have := hLd.lt; have := hLd.size; omega)), hlt, Nat.le_trans hLd.size hbw.size⟩
      have hW3 : WWays w w3 c0 (.slice (some ⟨g4, 0, none⟩) todo.length c4) vl ln :=
        ⟨ownsRow_mono hvl (by have := HL.out.lt; have := HL.out.size; omega), fun k hk => by
          have := (World.ownsRow.lt hvl k hk).1
          have := HL.out.size
          exact ⟨by omega, by simp [Value.ownBlock]; omega⟩⟩
      have hln2 : ln.length ≤ 2 := by rw [hln]; exact nextL_len _ _
      have HL3 := Lib.hid hL3
      have HW3 := Lib.hid hW3
      have Hln := Lib.hid hln
      clear hLd hL3 hW3 hln hvl hbw f0 f1 f2 f3 f4 hcx hsd
      obtain ⟨tn, htn⟩ : ∃ tn, tn = todo.length := ⟨_, rfl⟩
      rw [← htn]
      have Htn := Lib.hid htn
      clear htn
      go_wp2_with fail
      go_loopg [6, 9] (ln.length) (fun g v k wx => ∃ can' todo' kk, k = .int .i64 ((kk : Nat) : Int) ∧ g = ln.length - kk ∧ kk ≤ ln.length ∧ q < todo'.length ∧ todo'.getD q 0 = u ∧ QInv code gone can' todo' q kk ∧
        WLoop w wx len s vp regs words (.slice ca len cap) c0 v can' todo' ∧ WWays w wx c0 v vl ln)
      case atStart =>
        refine ⟨can, todo, 0, rfl, rfl, Nat.zero_le _, hqt, Hu.out.symm, HI.out, ?_, ?_⟩
        · rw [Htn.out]; exact HL3.out
        · rw [Htn.out]; exact HW3.out
      case round =>
        obtain ⟨can', todo', kk, rfl, hg2, hkk, hqt', hu', hI', hL', hW'⟩ := hrel
        have hcl' : can'.length = len := by rw [hI'.len, Hl.out]
        have Hg2 := Lib.hid hg2
        have Hu' := Lib.hid hu'
        have HI' := Lib.hid hI'
        have HL' := Lib.hid hL'
        have HW' := Lib.hid hW'
        have Hcl' := Lib.hid hcl'
        clear hg2 hu' hI' hL' hW' hcl' HL3 HW3
        by_cases hkl : kk < ln.length
        · obtain ⟨gl, cl, rfl, hglb, hgls⟩ : ∃ gl cl, vl = .slice (some ⟨gl, 0, none⟩) ln.length cl ∧ w.heap.size ≤ gl ∧ gl < wr.heap.size := by
            rcases HW'.out.own.form with ⟨_, h⟩ | ⟨g, c, h, h2, h3, _⟩
            · subst h; simp at hkl
            · exact ⟨g, c, h, h2, h3⟩
          obtain ⟨hgc, hgt⟩ := HW'.out.apart gl rfl
          have hlx : ln.getD kk 0 ∈ nextL code u := by rw [← Hln.out]; exact getD_mem hkl
          have hxr := nextL_range hlx
          obtain ⟨x, hx⟩ := Int.eq_ofNat_of_zero_le hxr.1
          have hxl : x < len := by rw [Hl.out]; omega
          have hcl : wr.cell? ⟨gl, kk, none⟩ = some (.int .i64 (x : Int)) := by rw [OwnInts.cell HW'.out.own hkl, hx]
          have hcc : wr.cell? ⟨c0, x, none⟩ = some (.bool (can'.getD x false)) := OwnBools.cell HL'.out.can (by rw [Hcl'.out]; exact hxl)
          have hcf : wr.frozen? ⟨c0, x, none⟩ = false := OwnBools.free HL'.out.can x
          have Hx : Hid ((nextL code (todo'.getD q 0)).getD kk 0 = x) := by show _ = _; rw [Hu'.out, ← Hln.out]; exact hx
          have Hkk : Hid (kk < (nextL code (todo'.getD q 0)).length) := by show _ < _; rw [Hu'.out, ← Hln.out]; exact hkl
          have Hgt := Lib.hid hgt
          have Hwr := Lib.hid (And.intro hgls hglb)
          clear hlx hxr hx hgt hgls hglb
          generalize ln.length = lm at *
          cases hd : (((x : Int) != gone) && !can'.getD x false)
          · have Hd : Hid ((x : Int) = gone ∨ can'.getD x false = true) := by
              show _ ∨ _
              rcases Bool.and_eq_false_iff.1 hd with h | h
              · exact Or.inl (by simpa using h)
              · exact Or.inr (by simpa using h)
            have hd' : ((x : Int) != gone) = false ∨ (((x : Int) != gone) = true ∧ can'.getD x false = true) := by
              cases h1 : ((x : Int) != gone)
              · exact Or.inl rfl
              · rw [h1] at hd; exact Or.inr ⟨rfl, by simpa using hd⟩
            clear hd
            rcases hd' with h1 | ⟨h1, h2⟩
            · generalize can'.getD x false = y at hcc
              go_wp2_with fail
              go_roundg (lm - (kk + 1))
              case measure => have := Hg2.out; omega
              case rel => exact ⟨can', todo', kk + 1, by go_num, rfl, hkl, hqt', Hu'.out, HI'.out.pass Hkk.out Hx.out Hd.out, HL'.out, HW'.out⟩
            · rw [h2] at hcc
              clear h2
              go_wp2_with fail
              go_roundg (lm - (kk + 1))
              case measure => have := Hg2.out; omega
              case rel => exact ⟨can', todo', kk + 1, by go_num, rfl, hkl, hqt', Hu'.out, HI'.out.pass Hkk.out Hx.out Hd.out, HL'.out, HW'.out⟩
          · obtain ⟨h1, h2⟩ : ((x : Int) != gone) = true ∧ can'.getD x false = false := by simpa using hd
            have Hd1 : Hid ((x : Int) ≠ gone) := by show _ ≠ _; simpa using h1
            have Hd2 := Lib.hid h2
            rw [h2] at hcc
            clear hd h2
            have hL1 := HL'.out.mark x
            have HL1 := Lib.hid hL1
            have HW1 : Hid (WWays w (wr.setCell ⟨c0, x, none⟩ (.bool true)) c0 u6 (.slice (some ⟨gl, 0, none⟩) lm cl) ln) :=
              ⟨ownsRow_setCell_other HW'.out.own (by simp [Value.ownBlock]; exact fun h => hgc h) _, HW'.out.apart⟩
            have Htl : Hid (todo'.length ≤ 1000000000000) := by
              have := HI'.out.count; rw [← Hl.out] at this; show _ ≤ _; omega
            have Hsz1 : Hid (c0 + 1 ≤ (wr.setCell ⟨c0, x, none⟩ (.bool true)).heap.size) := by show _ ≤ _; rw [size_set]; exact HL'.out.size
            clear hL1
            go_wp2_with (at_builtin; refine append_int_at rfl _ _ rfl (c0 + 1) _ todo' rfl HL1.out.todo _ _ rfl (size_set _ _ _) Htl.out Hsz1.out ?_)
            intro v4 w4 ho4 hg4 hf4 hb4
            have hs4 : (wr.setCell ⟨c0, x, none⟩ (.bool true)).heap.size = wr.heap.size := size_set _ _ _
            have HL4 : Hid (WLoop w w4 len s vp regs words (.slice ca len cap) c0 v4 (can'.set x true) (todo' ++ [(x : Int)])) := by
              have hbS : Below c0 (wr.setCell ⟨c0, x, none⟩ (.bool true)) w4 := hb4 _ _ (Below.refl _ _) (by omega)
              refine ⟨ho4, ?_, HL1.out.fn.later hbS hlt, hb4 _ _ HL1.out.below (by omega), hlt, ?_⟩
              · exact (World.ownsRow.alloc HL1.out.can _).kept hg4 (Or.inr (by
                  intro h
                  have := (World.ownsRow.lt HL1.out.todo c0 h.symm).1
                  omega))
              · have := hg4.size; have := Hsz1.out; simp at *; omega
            have HW4 : Hid (WWays w w4 c0 v4 (.slice (some ⟨gl, 0, none⟩) lm cl) ln) := by
              refine ⟨(World.ownsRow.alloc HW1.out.own _).kept hg4 (Or.inr (Ne.symm (Hgt.out))), fun k hk => ?_⟩
              simp only [Value.ownBlock, Option.some.injEq] at hk
              subst hk
              exact ⟨hgc, hf4 gl (by simp [hs4]; have := Hwr.out.1; omega) Hgt.out⟩
            clear ho4 hg4 hf4 hb4 hs4
            go_wp2_with fail
            go_roundg (lm - (kk + 1))
            case measure => have := Hg2.out; omega
            case rel =>
              refine ⟨can'.set x true, todo' ++ [(x : Int)], kk + 1, by go_num, rfl, hkl, by simp; omega, ?_, HI'.out.mark hqt' Hkk.out Hx.out Hd1.out Hd2.out, HL4.out, HW4.out⟩
              rw [getD_append_left hqt', Hu'.out]
        · have hnx := HI'.out.next (by rw [Hu'.out, ← Hln.out]; omega)
          have HN := Lib.hid hnx
          have hvl : ∃ av cv, vl = .slice av ln.length cv := by
            rcases HW'.out.own.form with ⟨h1, h⟩ | ⟨g, c, h, _⟩
            · exact ⟨none, 0, by rw [h1, h]; rfl⟩
            · exact ⟨_, _, h⟩
          obtain ⟨av, cv, rfl⟩ := hvl
          clear hnx
          generalize ln.length = lm at *
          go_wp2_with fail
          go_roundg (len - (q + 1))
          case measure => have := Hg.out; omega
          case rel => exact ⟨can', todo', q + 1, by go_num, rfl, hqt', HN.out, HL'.out⟩
    · have hfin := HI.out.done HH.out (by omega)
      have Hfin := Lib.hid hfin
      have hform : ∃ a4 c4, u6 = .slice a4 todo.length c4 := by
        rcases HL.out.todo.form with ⟨h1, h⟩ | ⟨g, c, h, _⟩
        · exact ⟨none, 0, by rw [h1, h]; rfl⟩
        · exact ⟨_, _, h⟩
      obtain ⟨a4, c4, rfl⟩ := hform
      obtain ⟨tn, htn⟩ : ∃ tn, tn = todo.length := ⟨_, rfl⟩
      rw [← htn] at hqt ⊢
      clear hfin htn hq htl
      go_wp2_with fail
      go_ret
      refine ⟨_, rfl, ?_, HL.out.below⟩
      rw [← Hfin.out, ]
      have := HL.out.can
      exact ownsRow_mono this (by omega)

set_option maxHeartbeats 400000 in
theorem without_any (s : ByteArray) (vp : Value) (regs words : Int) (vc : Value) (code : List Ins) (gone : Int) (w : World) (hlen : code.length * 40 ≤ 140737488351232) (hc : CodeIn w vc code) :
    Calls Tryd.prog 32 #[fnV s vp regs words vc, .int .i64 gone] w (RetBools (reachL code gone) w) := by
  cases hh : hasB code
  · have e : reachL code gone = [] := by unfold reachL; simp [hh]
    rw [e]
    obtain ⟨-, ca, cap, rfl, -⟩ := hc
    have Hlen := Lib.hid hlen
    clear hlen e
    go_enter Tryd.func32, Tryd.ntmps32
    go_wp2_with fail
    refine (has_any s vp regs words ca cap code _ Hlen.out).mono ?_
    rintro e w1 ⟨rfl, hb1⟩
    have hbl : Below w.heap.size w w1 := ((Below.refl _ _).alloc (Nat.le_refl _) _).trans (hb1.mono (by simp))
    have Hbl := Lib.hid hbl
    rw [hh]
    clear hb1 hbl
    go_wp2_with fail
    go_ret
    refine ⟨_, rfl, owns_empty _ _ _ Hbl.out.size, Hbl.out.alloc Hbl.out.size _⟩
  by_cases hg : gone = 0
  · subst hg
    have hpos : 0 < code.length ∧ code.length ≤ 1024 := by simpa [hasB] using hh
    rw [reachL_gone0 hh]
    obtain ⟨-, ca, cap, rfl, -⟩ := hc
    have Hlen := Lib.hid hlen
    clear hlen
    go_enter Tryd.func32, Tryd.ntmps32
    go_wp2_with fail
    refine (has_any s vp regs words ca cap code _ Hlen.out).mono ?_
    rintro e w1 ⟨rfl, hb1⟩
    have hbl : Below w.heap.size w w1 := ((Below.refl _ _).alloc (Nat.le_refl _) _).trans (hb1.mono (by simp))
    have f4 := ((FnAt.box w s vp regs words (.slice ca code.length cap) 25).later hb1 (by simp)).c4
    have Hbl := Lib.hid hbl
    have hsz : w.heap.size < w1.heap.size := by have := hb1.size; simp at this; omega
    rw [hh]
    clear hb1 hbl hh
    generalize code.length = len at *
    obtain ⟨hp0, hp1⟩ := hpos
    go_wp2_with (at_make; refine make_bools rfl _ _ rfl w1.heap.size len rfl rfl (by omega) (Nat.le_refl _) ?_)
    intro w2 hcan hgr
    have hbl2 : Below w.heap.size w w2 := Hbl.out.grown hgr (by omega) (by intro k hk; cases hk)
    have HR : Hid (OwnBools w2 w.heap.size (.slice (some ⟨w1.heap.size, 0, none⟩) len len) (List.replicate len false)) := ownsRow_mono hcan (by omega)
    have HB := Lib.hid hbl2
    clear hcan hgr hbl2
    go_wp2_with fail
    go_ret
    exact ⟨_, rfl, HR.out, HB.out⟩
  · exact without_in s vp regs words vc code gone w hh hg hc

set_option maxHeartbeats 400000 in
theorem rreach_any (s : ByteArray) (vp : Value) (regs words : Int) (vc : Value) (code : List Ins) (w : World) (hlen : code.length * 40 ≤ 140737488351232) (hc : CodeIn w vc code) :
    Calls Tryd.prog 19 #[fnV s vp regs words vc] w (RetBools (reachL code (-1)) w) := by
  have Hlen := Lib.hid hlen
  have Hc : Hid (CodeIn (w.alloc (.cells #[.string s, vp, .int .i64 regs, .int .i64 words, vc] 25)) vc code) := SliceIn.later hc ((Below.refl _ _).alloc (Nat.le_refl _) _)
  clear hlen hc
  go_enter Tryd.func19, Tryd.ntmps19
  go_wp2_with fail
  go_outline
  refine (without_any s vp regs words vc code (-1) _ Hlen.out Hc.out).mono ?_
  rintro e w1 ⟨v, rfl, hv, hb⟩
  have HV : Hid (OwnBools w1 w.heap.size v (reachL code (-1))) := ownsRow_mono hv (by simp)
  have HB : Hid (Below w.heap.size w w1) := ((Below.refl _ _).alloc (Nat.le_refl _) _).trans (hb.mono (by simp))
  clear hv hb
  go_wp2_with fail
  go_ret
  exact ⟨_, rfl, HV.out, HB.out⟩
end Go.Proofs.YtapjdndcnenadaaDoor
