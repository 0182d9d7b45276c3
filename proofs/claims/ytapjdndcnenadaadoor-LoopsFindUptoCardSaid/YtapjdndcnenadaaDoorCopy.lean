/- CopyFunc of the reference: the same function in memory of its own. -/
import Derived.Test.YtapjdndcnenadaaDoorOpen
namespace Go.Proofs.YtapjdndcnenadaaDoor
open Go.RowKit

theorem Tryd.infoIns : (Tryd.prog.info? 52).map (fun i => (i.zero, i.size, i.bytes)) = some (some (.agg #[.int .i64 0, .int .i64 0, .int .i64 0, .int .i64 0, .int .i64 0]), 5, 40) := by kernel_rfl
theorem Tryd.infoSpan : (Tryd.prog.info? 86).map (fun i => (i.zero, i.size, i.bytes)) = some (some (.agg #[.int .i64 0, .int .i64 0]), 2, 16) := by kernel_rfl
def OwnCode (w : World) (B : Nat) (v : Value) (l : List Ins) : Prop := w.ownsRow B 52 5 v l.length (l.flatMap Ins.cells)
def OwnSpans (w : World) (B : Nat) (v : Value) (l : List Span) : Prop := w.ownsRow B 86 2 v l.length (l.flatMap Span.cells)

def RetFunc (s : ByteArray) (regs words : Int) (params : List Span) (code : List Ins) (w : World) (e : Ending) (w' : World) : Prop :=
  ∃ vp vc, e = .returned (fnV s vp regs words vc) ∧ OwnSpans w' w.heap.size vp params ∧ OwnCode w' w.heap.size vc code ∧ (∀ k, vp.ownBlock = some k → vc.ownBlock ≠ some k) ∧ Below w.heap.size w w'

theorem row_form {w : World} {B : Nat} {e : TypeId} {size : Nat} {v : Value} {n : Nat} {xs : List Value} (h : w.ownsRow B e size v n xs) : ∃ a l c, v = .slice a l c := by
  rcases h.2 with ⟨rfl, _⟩ | ⟨g, cap, cur, rfl, _⟩
  · exact ⟨none, 0, 0, rfl⟩
  · exact ⟨_, _, _, rfl⟩

theorem FnAt.other {w : World} {k : Nat} {s : ByteArray} {vp : Value} {regs words : Int} {vc : Value} (h : FnAt w k s vp regs words vc) {p : Addr} (hp : k ≠ p.block) (u : Value) : FnAt (w.setCell p u) k s vp regs words vc :=
  have e : ∀ j, (w.setCell p u).cell? ⟨k, j, none⟩ = w.cell? ⟨k, j, none⟩ := fun j => World.cell?_setCell_other _ _ _ _ (by intro h; exact hp (by rw [h]))
  ⟨(e 0).trans h.c0, (e 1).trans h.c1, (e 2).trans h.c2, (e 3).trans h.c3, (e 4).trans h.c4⟩

set_option maxRecDepth 100000 in
set_option maxHeartbeats 1000000 in
theorem copyFunc_any (s : ByteArray) (vp : Value) (regs words : Int) (vc : Value) (params : List Span) (code : List Ins) (w : World) (hlen : code.length * 40 ≤ 140737488351232) (hplen : params.length * 16 ≤ 140737488351232) (hc : CodeIn w vc code) (hp : SpansIn w vp params) :
    Calls Tryd.prog 7 #[fnV s vp regs words vc] w (RetFunc s regs words params code w) := by
  have Hc := Lib.hid hc
  have Hp := Lib.hid hp
  have Hlen := Lib.hid hlen
  have Hplen := Lib.hid hplen
  clear hc hp hlen hplen
  obtain ⟨W0, hW0⟩ : ∃ W0 : World, W0 = (w.alloc (.cells #[.string s, vp, .int .i64 regs, .int .i64 words, vc] 25)).alloc (.cells #[.string ⟨#[]⟩, .slice none 0 0, .int .i64 0, .int .i64 0, .slice none 0 0] 25) := ⟨_, rfl⟩
  have hs0 : W0.heap.size = w.heap.size + 2 := by rw [hW0]; simp
  have hb0 : Below w.heap.size w W0 := by rw [hW0]; exact ((Below.refl _ _).alloc (Nat.le_refl _) _).alloc (by (try simp only [World.size_alloc]); (try simp only [size_set]); omega) _
  have hf0 : FnAt W0 w.heap.size s vp regs words vc := by rw [hW0]; exact (FnAt.box w s vp regs words vc _).later ((Below.refl (w.heap.size + 1) _).alloc (by (try simp only [World.size_alloc]); (try simp only [size_set]); omega) _) (Nat.lt_succ_self _)
  have hg0 : FnAt W0 (w.heap.size + 1) ⟨#[]⟩ (.slice none 0 0) 0 0 (.slice none 0 0) := by
    rw [hW0]
    have := FnAt.box (w.alloc (.cells #[.string s, vp, .int .i64 regs, .int .i64 words, vc] 25)) ⟨#[]⟩ (.slice none 0 0) 0 0 (.slice none 0 0) 25
    simpa using this
  have hz0 : (∀ j, W0.frozen? ⟨w.heap.size, j, none⟩ = false) ∧ (∀ j, W0.frozen? ⟨w.heap.size + 1, j, none⟩ = false) := by
    rw [hW0]
    refine ⟨fun j => ?_, fun j => ?_⟩
    · rw [World.frozen?_alloc_past _ _ _ (by (try simp only [World.size_alloc]); (try simp only [size_set]); omega), World.frozen?_alloc_at _ _ _ _ (by simp)]
    · rw [World.frozen?_alloc_at _ _ _ _ (by simp)]
  have hp0 : SpansIn (W0.alloc (.cells #[] 86)) vp params := SliceIn.later Hp.out (hb0.alloc (by omega) _)
  have ho0 : (W0.alloc (.cells #[] 86)).ownsRow (w.heap.size + 2) 86 2 (.slice (some ⟨W0.heap.size, 0, none⟩) 0 0) 0 [] := owns_empty W0 _ _ (by omega)
  rw [hs0] at ho0
  have Hp0 := Lib.hid hp0
  have Ho0 := Lib.hid ho0
  have Hl0 : Hid (0 + params.length ≤ maxLen ∧ (0 + params.length) * 16 ≤ 140737488355328) := by
    have := Hplen.out
    unfold maxLen
    exact ⟨by omega, by omega⟩
  have Hbb : Hid (Below (w.heap.size + 2) W0 (W0.alloc (.cells #[] 86))) := (Below.refl _ _).alloc (by omega) _
  have HsB : Hid (w.heap.size + 2 ≤ (W0.alloc (.cells #[] 86)).heap.size) := by show _ ≤ _; simp; omega
  have HX := Lib.hid (And.intro hs0 (And.intro hb0 (And.intro hf0 (And.intro hg0 hz0))))
  have HW0 := Lib.hid hW0
  clear hp0 ho0 hs0 hb0 hf0 hg0 hz0 hW0
  go_enter Tryd.func7, Tryd.ntmps7
  go_wp2_with (at_builtin; rw [← HW0.out]; refine append_gen rfl _ _ 22 rfl Tryd.underlying22 Tryd.infoSpan rfl (by decide) (w.heap.size + 2) _ 0 [] rfl Ho0.out _ params.length (params.flatMap Span.cells) rfl Hp0.out ?_ Hl0.out.1 Hl0.out.2 HsB.out ?_)
  · intro u hu
    simp only [List.mem_flatMap, Span.cells] at hu
    obtain ⟨x, _, hx⟩ := hu
    simp at hx; rcases hx with rfl | rfl <;> rfl
  intro v3' w3 ho3 hg3 hf3 hb3
  obtain ⟨a3, l3, e3, rfl⟩ := row_form ho3
  obtain ⟨hs0, hb0, hf0, hg0, hz0⟩ := HX.out
  have hbS : Below (w.heap.size + 2) W0 w3 := hb3 _ _ Hbb.out (Nat.le_refl _)
  obtain ⟨f0, f1, f2, f3, f4⟩ := hf0.later hbS (by omega)
  obtain ⟨g0, g1, g2, g3, g4⟩ := hg0.later hbS (by omega)
  have z0 : ∀ j, w3.frozen? ⟨w.heap.size, j, none⟩ = false := fun j => (hbS.frozen (p := ⟨w.heap.size, j, none⟩) (by show w.heap.size < _; omega)).trans (hz0.1 j)
  have z1 : ∀ j, w3.frozen? ⟨w.heap.size + 1, j, none⟩ = false := fun j => (hbS.frozen (p := ⟨w.heap.size + 1, j, none⟩) (by show w.heap.size + 1 < _; omega)).trans (hz0.2 j)
  have hsz3 : w.heap.size + 2 ≤ w3.heap.size := by have := hbS.size; omega
  obtain ⟨W4, hW4⟩ : ∃ W4 : World, W4 = w3.setCell ⟨w.heap.size, 1, none⟩ (.slice a3 l3 e3) := ⟨_, rfl⟩
  have hs4 : W4.heap.size = w3.heap.size := by rw [hW4, size_set]
  have hb4 : Below (w.heap.size) W0 W4 := by rw [hW4]; exact Below.setCell (hbS.mono (by omega)) (by show w.heap.size ≤ w.heap.size; omega) _
  have hv4 : W4.ownsRow (w.heap.size + 2) 86 2 (.slice a3 l3 e3) params.length (params.flatMap Span.cells) := by rw [hW4]; exact ownsRow_setCell_below (a := ⟨w.heap.size, 1, none⟩) (by simpa using ho3) (by show w.heap.size < _; omega) _
  have y0 : W4.cell? ⟨w.heap.size, 0, none⟩ = some (.string s) := by rw [hW4, World.cell?_setCell_other _ _ _ _ (by simp)]; exact f0
  have y1 : W4.cell? ⟨w.heap.size, 1, none⟩ = some (.slice a3 l3 e3) := by rw [hW4]; exact World.cell?_setCell_same' _ _ _ (by rw [f1]; rfl)
  have y2 : W4.cell? ⟨w.heap.size, 2, none⟩ = some (.int .i64 regs) := by rw [hW4, World.cell?_setCell_other _ _ _ _ (by simp)]; exact f2
  have y3 : W4.cell? ⟨w.heap.size, 3, none⟩ = some (.int .i64 words) := by rw [hW4, World.cell?_setCell_other _ _ _ _ (by simp)]; exact f3
  have y4 : W4.cell? ⟨w.heap.size, 4, none⟩ = some vc := by rw [hW4, World.cell?_setCell_other _ _ _ _ (by simp)]; exact f4
  have hf4' : FnAt W4 w.heap.size s (.slice a3 l3 e3) regs words vc := ⟨y0, y1, y2, y3, y4⟩
  have hg4' : FnAt W4 (w.heap.size + 1) ⟨#[]⟩ (.slice none 0 0) 0 0 (.slice none 0 0) := by
    rw [hW4]
    exact FnAt.other ⟨g0, g1, g2, g3, g4⟩ (by show w.heap.size + 1 ≠ w.heap.size; omega) _
  have hz4 : (∀ j, W4.frozen? ⟨w.heap.size, j, none⟩ = false) ∧ (∀ j, W4.frozen? ⟨w.heap.size + 1, j, none⟩ = false) := by
    rw [hW4]; exact ⟨fun j => (World.frozen?_setCell _ _ _ _).trans (z0 j), fun j => (World.frozen?_setCell _ _ _ _).trans (z1 j)⟩
  have hc4 : CodeIn (W4.alloc (.cells #[] 52)) vc code := SliceIn.later Hc.out ((hb0.trans (hb4.mono (by omega))).alloc (by omega) _)
  have ho4 : (W4.alloc (.cells #[] 52)).ownsRow w3.heap.size 52 5 (.slice (some ⟨W4.heap.size, 0, none⟩) 0 0) 0 [] := owns_empty W4 _ _ (by omega)
  have hl4 : 0 + code.length ≤ maxLen ∧ (0 + code.length) * 40 ≤ 140737488355328 := by
    have := Hlen.out
    unfold maxLen
    exact ⟨by omega, by omega⟩
  have hbb4 : Below w3.heap.size W4 (W4.alloc (.cells #[] 52)) := (Below.refl _ _).alloc (by omega) _
  rw [hs4] at ho4
  have Hc4 := Lib.hid hc4
  have Ho4 := Lib.hid ho4
  have Hl4 := Lib.hid hl4
  have Hbb4 := Lib.hid hbb4
  have HsB4 : Hid (w3.heap.size ≤ (W4.alloc (.cells #[] 52)).heap.size) := by show _ ≤ _; simp; omega
  have HY := Lib.hid (And.intro hs4 (And.intro (hb0.trans hb4) (And.intro hf4' (And.intro hg4' (And.intro hz4 hv4)))))
  have HW4 := Lib.hid hW4
  have Z0 := z0 1
  have hr : ((w3.setCell ⟨w.heap.size, 1, none⟩ (.slice a3 l3 e3)).alloc (.cells #[] 52)).cell? ⟨w.heap.size, 4, none⟩ = some vc := by
    rw [World.cell?_alloc_past _ _ _ (by show w.heap.size < (World.setCell _ _ _).heap.size; rw [size_set]; omega), World.cell?_setCell_other _ _ _ _ (by simp)]; exact f4
  clear hs0 hb0 hf0 hg0 hz0 ho3 hg3 hf3 hb3 hbS z0 z1 hs4 hb4 hv4 y0 y1 y2 y3 y4 hf4' hg4' hz4 hc4 ho4 hl4 hbb4 hW4 HX Ho0 Hp0 Hl0 Hbb HsB g0 g1 g2 g3 g4
  go_wp2_with (at_builtin; rw [← HW4.out]; refine append_gen rfl _ _ 23 rfl Tryd.underlying23 Tryd.infoIns rfl (by decide) w3.heap.size _ 0 [] rfl Ho4.out _ code.length (code.flatMap Ins.cells) rfl Hc4.out ?_ Hl4.out.1 Hl4.out.2 HsB4.out ?_)
  · intro u hu
    simp only [List.mem_flatMap, Ins.cells] at hu
    obtain ⟨x, _, hx⟩ := hu
    simp at hx; rcases hx with rfl | rfl | rfl | rfl | rfl <;> rfl
  intro v5' w5 ho5 hg5 hf5 hb5
  obtain ⟨a5, l5, e5, rfl⟩ := row_form ho5
  obtain ⟨hs4, hb4, hf4, hg4, hz4, hv4⟩ := HY.out
  have hbS : Below w3.heap.size W4 w5 := hb5 _ _ Hbb4.out (Nat.le_refl _)
  obtain ⟨c0, c1, c2, c3, c4⟩ := hf4.later hbS (by omega)
  obtain ⟨d0, d1, d2, d3, d4⟩ := hg4.later hbS (by omega)
  have z0 : ∀ j, w5.frozen? ⟨w.heap.size, j, none⟩ = false := fun j => (hbS.frozen (p := ⟨w.heap.size, j, none⟩) (by show w.heap.size < _; omega)).trans (hz4.1 j)
  have z1 : ∀ j, w5.frozen? ⟨w.heap.size + 1, j, none⟩ = false := fun j => (hbS.frozen (p := ⟨w.heap.size + 1, j, none⟩) (by show w.heap.size + 1 < _; omega)).trans (hz4.2 j)
  have HQ : Hid (Below w.heap.size w w5 ∧ w5.ownsRow (w.heap.size + 2) 86 2 (.slice a3 l3 e3) params.length (params.flatMap Span.cells) ∧ w5.ownsRow (w.heap.size + 2) 52 5 (.slice a5 l5 e5) code.length (code.flatMap Ins.cells) ∧ (∀ k, (Value.slice a3 l3 e3).ownBlock = some k → (Value.slice a5 l5 e5).ownBlock ≠ some k) ) := by
    refine ⟨hb4.trans (hbS.mono (by omega)), ownsRow_below hv4 hbS (by omega), ownsRow_mono (by simpa using ho5) (by omega), fun k hk h5 => ?_⟩
    have h1 := (World.ownsRow.lt hv4 k hk).2
    have h2 := (World.ownsRow.lt ho5 k h5).1
    omega
  clear hs4 hb4 hf4 hg4 hz4 hv4 ho5 hg5 hf5 hb5 hbS HY Hc4 Ho4 Hl4 Hbb4 HsB4 HW4 HW0 Z0 f0 f1 f2 f3 f4
  go_wp2_with fail
  obtain ⟨WF, hWF⟩ : ∃ WF : World, WF = (((((w5.setCell ⟨w.heap.size, 4, none⟩ (.slice a5 l5 e5)).setCell ⟨w.heap.size + 1, 0, none⟩ (.string s)).setCell ⟨w.heap.size + 1, 1, none⟩ (.slice a3 l3 e3)).setCell ⟨w.heap.size + 1, 2, none⟩ (.int .i64 regs)).setCell ⟨w.heap.size + 1, 3, none⟩ (.int .i64 words)).setCell ⟨w.heap.size + 1, 4, none⟩ (.slice a5 l5 e5) := ⟨_, rfl⟩
  rw [← hWF]
  have e0 : WF.cell? ⟨w.heap.size + 1, 0, none⟩ = some (.string s) := by
    rw [hWF, World.cell?_setCell_other _ _ _ _ (by simp), World.cell?_setCell_other _ _ _ _ (by simp), World.cell?_setCell_other _ _ _ _ (by simp), World.cell?_setCell_other _ _ _ _ (by simp)]
    exact World.cell?_setCell_same' _ _ _ (by rw [World.cell?_setCell_other _ _ _ _ (by simp), d0]; rfl)
  have e1 : WF.cell? ⟨w.heap.size + 1, 1, none⟩ = some (.slice a3 l3 e3) := by
    rw [hWF, World.cell?_setCell_other _ _ _ _ (by simp), World.cell?_setCell_other _ _ _ _ (by simp), World.cell?_setCell_other _ _ _ _ (by simp)]
    exact World.cell?_setCell_same' _ _ _ (by rw [World.cell?_setCell_other _ _ _ _ (by simp), World.cell?_setCell_other _ _ _ _ (by simp), d1]; rfl)
  have e2 : WF.cell? ⟨w.heap.size + 1, 2, none⟩ = some (.int .i64 regs) := by
    rw [hWF, World.cell?_setCell_other _ _ _ _ (by simp), World.cell?_setCell_other _ _ _ _ (by simp)]
    exact World.cell?_setCell_same' _ _ _ (by rw [World.cell?_setCell_other _ _ _ _ (by simp), World.cell?_setCell_other _ _ _ _ (by simp), World.cell?_setCell_other _ _ _ _ (by simp), d2]; rfl)
  have e3' : WF.cell? ⟨w.heap.size + 1, 3, none⟩ = some (.int .i64 words) := by
    rw [hWF, World.cell?_setCell_other _ _ _ _ (by simp)]
    exact World.cell?_setCell_same' _ _ _ (by rw [World.cell?_setCell_other _ _ _ _ (by simp), World.cell?_setCell_other _ _ _ _ (by simp), World.cell?_setCell_other _ _ _ _ (by simp), World.cell?_setCell_other _ _ _ _ (by simp), d3]; rfl)
  have e4 : WF.cell? ⟨w.heap.size + 1, 4, none⟩ = some (.slice a5 l5 e5) := by
    rw [hWF]
    exact World.cell?_setCell_same' _ _ _ (by rw [World.cell?_setCell_other _ _ _ _ (by simp), World.cell?_setCell_other _ _ _ _ (by simp), World.cell?_setCell_other _ _ _ _ (by simp), World.cell?_setCell_other _ _ _ _ (by simp), World.cell?_setCell_other _ _ _ _ (by simp), d4]; rfl)
  have hk : ∀ {e : TypeId} {size : Nat} {v : Value} {n : Nat} {xs : List Value}, w5.ownsRow (w.heap.size + 2) e size v n xs → WF.ownsRow (w.heap.size + 2) e size v n xs := fun h => by
    rw [hWF]
    refine ownsRow_setCell_below (ownsRow_setCell_below (ownsRow_setCell_below (ownsRow_setCell_below (ownsRow_setCell_below (ownsRow_setCell_below h ?_ _) ?_ _) ?_ _) ?_ _) ?_ _) ?_ _
    all_goals first | (show w.heap.size < _; omega) | (show w.heap.size + 1 < _; omega)
  have hbF : Below w.heap.size w WF := by
    rw [hWF]
    refine (((((HQ.out.1.setCell ?_ _).setCell ?_ _).setCell ?_ _).setCell ?_ _).setCell ?_ _).setCell ?_ _
    all_goals first | (show w.heap.size ≤ w.heap.size; omega) | (show w.heap.size ≤ w.heap.size + 1; omega)
  clear hWF
  refine bodyPost_ret (v := fnV s (.slice a3 l3 e3) regs words (.slice a5 l5 e5)) (by simp [results, Tryd.results7, go_sem, e0, e1, e2, e3', e4]) rfl ⟨_, _, rfl, ownsRow_mono (hk HQ.out.2.1) (by omega), ownsRow_mono (hk HQ.out.2.2.1) (by omega), HQ.out.2.2.2, hbF⟩
end Go.Proofs.YtapjdndcnenadaaDoor
