/- gen.Module. -/
import Derived.Test.YtgobcldecokppaaDoorGnMod
namespace Go.Proofs.YtgobcldecokppaaDoor
open Go.RowKit Go.Maps

theorem gn_faultE (x y z : Int) (w : World) : (Instr.field 32 (.agg #[.int .i64 x, .int .i64 y, .int .i64 z]) 0).run Tryd.prog w = .ok (.int .i64 x) w := by kernel_rfl
theorem GmAt.nil (w : World) (B : Nat) : GmAt w B (.slice none 0 0) (.slice none 0 0) [] [] :=
  ⟨World.ownsRow_nil _ _ _ _, World.ownsRow_nil _ _ _ _, fun x hx => (by cases hx), List.Pairwise.nil, fun k e => (by cases e), fun k e => (by cases e)⟩
theorem inBlock_ret {n : Nat} {Q : Exit → Act → World → Prop} {a : Act} {w : World} (h : Q .ret a w) : Exit.inBlock n Q .ret a w := h
theorem then_ret {K : Act → World → Prop} {Q : Exit → Act → World → Prop} {a : Act} {w : World} (h : Q .ret a w) : Exit.then K Q .ret a w := h
/-- The two cells' blocks in which the answer is laid. -/
structure ResAt (w : World) (P2 P3 : Nat) : Prop where
  a0 : ∃ u, w.cell? ⟨P2, 0, none⟩ = some u
  a1 : ∃ u, w.cell? ⟨P2, 1, none⟩ = some u
  b0 : ∃ u, w.cell? ⟨P3, 0, none⟩ = some u
  b1 : ∃ u, w.cell? ⟨P3, 1, none⟩ = some u
  b2 : ∃ u, w.cell? ⟨P3, 2, none⟩ = some u
  fa : ∀ j, w.frozen? ⟨P2, j, none⟩ = false
  fb : ∀ j, w.frozen? ⟨P3, j, none⟩ = false
  ne : P2 ≠ P3
theorem ResAt.lt {w : World} {P2 P3 : Nat} (h : ResAt w P2 P3) : P2 < w.heap.size ∧ P3 < w.heap.size := by
  obtain ⟨⟨u, h1⟩, _, ⟨v, h2⟩, _⟩ := h
  exact ⟨block_lt_of_cell h1, block_lt_of_cell h2⟩
theorem ResAt.oth {w w' : World} {P2 P3 : Nat} {T : Nat → Prop} (h : ResAt w P2 P3) (hO : Oth T w w') (h2 : ¬ T P2) (h3 : ¬ T P3) : ResAt w' P2 P3 := by
  have k2 := fun j => hO.cell (p := ⟨P2, j, none⟩) h.lt.1 h2
  have k3 := fun j => hO.cell (p := ⟨P3, j, none⟩) h.lt.2 h3
  obtain ⟨u0, a0⟩ := h.a0
  obtain ⟨u1, a1⟩ := h.a1
  obtain ⟨v0, b0⟩ := h.b0
  obtain ⟨v1, b1⟩ := h.b1
  obtain ⟨v2, b2⟩ := h.b2
  exact ⟨⟨_, (k2 0).trans a0⟩, ⟨_, (k2 1).trans a1⟩, ⟨_, (k3 0).trans b0⟩, ⟨_, (k3 1).trans b1⟩, ⟨_, (k3 2).trans b2⟩, fun j => (hO.frozen (p := ⟨P2, j, none⟩) h.lt.1 h2).trans (h.fa j), fun j => (hO.frozen (p := ⟨P3, j, none⟩) h.lt.2 h3).trans (h.fb j), h.ne⟩
theorem ResAt.later {w w' : World} {P2 P3 : Nat} (h : ResAt w P2 P3) (hb : Below w.heap.size w w') : ResAt w' P2 P3 := h.oth (T := fun _ => False) (.of_below hb) (fun e => e) (fun e => e)
theorem Pg.widen_few {p : Pg} (h : p.fault.1 = 0) : p.widen.length ≤ 16 := by
  unfold Pg.fault at h
  by_cases h0 : p.headErr = 0
  · unfold Pg.headErr at h0
    split at h0
    · omega
    · omega
  · rw [if_pos h0] at h; exact absurd h h0
/-- The world in which the answer is laid. -/
def resW (w : World) (P2 P3 : Nat) (u0 u1 v0 v1 v2 : Value) : World := ((((w.setCell ⟨P2, 0, none⟩ u0).setCell ⟨P2, 1, none⟩ u1).setCell ⟨P3, 0, none⟩ v0).setCell ⟨P3, 1, none⟩ v1).setCell ⟨P3, 2, none⟩ v2
theorem ResAt.put {w : World} {P2 P3 : Nat} (h : ResAt w P2 P3) (u0 u1 v0 v1 v2 : Value) : ((resW w P2 P3 u0 u1 v0 v1 v2).cell? ⟨P2, 0, none⟩ = some u0 ∧ (resW w P2 P3 u0 u1 v0 v1 v2).cell? ⟨P2, 1, none⟩ = some u1 ∧ (resW w P2 P3 u0 u1 v0 v1 v2).cell? ⟨P3, 0, none⟩ = some v0 ∧ (resW w P2 P3 u0 u1 v0 v1 v2).cell? ⟨P3, 1, none⟩ = some v1 ∧ (resW w P2 P3 u0 u1 v0 v1 v2).cell? ⟨P3, 2, none⟩ = some v2) ∧ Oth (fun k => k = P2 ∨ k = P3) w (resW w P2 P3 u0 u1 v0 v1 v2) := by
  obtain ⟨x0, a0⟩ := h.a0
  obtain ⟨x1, a1⟩ := h.a1
  obtain ⟨y0, b0⟩ := h.b0
  obtain ⟨y1, b1⟩ := h.b1
  obtain ⟨y2, b2⟩ := h.b2
  have hne := h.ne
  have n23 : ∀ i j, (⟨P2, i, none⟩ : Addr) ≠ ⟨P3, j, none⟩ := fun i j e => hne (by injection e)
  have n32 : ∀ i j, (⟨P3, i, none⟩ : Addr) ≠ ⟨P2, j, none⟩ := fun i j e => hne (by injection e with e; exact e.symm)
  have ni : ∀ (P i j : Nat), i ≠ j → (⟨P, i, none⟩ : Addr) ≠ ⟨P, j, none⟩ := fun P i j hij e => hij (by injection e)
  have e1 : (w.setCell ⟨P2, 0, none⟩ u0).cell? ⟨P2, 0, none⟩ = some u0 := World.cell?_setCell_same' _ _ _ (by rw [a0]; rfl)
  have e2 : ((w.setCell ⟨P2, 0, none⟩ u0).setCell ⟨P2, 1, none⟩ u1).cell? ⟨P2, 1, none⟩ = some u1 := World.cell?_setCell_same' _ _ _ (by rw [World.cell?_setCell_other _ _ _ _ (ni _ 0 1 (by omega)), a1]; rfl)
  refine ⟨⟨?_, ?_, ?_, ?_, ?_⟩, ?_⟩
  · unfold resW
    rw [World.cell?_setCell_other _ _ _ _ (n32 _ _), World.cell?_setCell_other _ _ _ _ (n32 _ _), World.cell?_setCell_other _ _ _ _ (n32 _ _), World.cell?_setCell_other _ _ _ _ (ni _ 1 0 (by omega))]
    exact e1
  · unfold resW
    rw [World.cell?_setCell_other _ _ _ _ (n32 _ _), World.cell?_setCell_other _ _ _ _ (n32 _ _), World.cell?_setCell_other _ _ _ _ (n32 _ _)]
    exact e2
  · unfold resW
    rw [World.cell?_setCell_other _ _ _ _ (ni _ 2 0 (by omega)), World.cell?_setCell_other _ _ _ _ (ni _ 1 0 (by omega))]
    exact World.cell?_setCell_same' _ _ _ (by rw [World.cell?_setCell_other _ _ _ _ (n23 _ _), World.cell?_setCell_other _ _ _ _ (n23 _ _), b0]; rfl)
  · unfold resW
    rw [World.cell?_setCell_other _ _ _ _ (ni _ 2 1 (by omega))]
    exact World.cell?_setCell_same' _ _ _ (by rw [World.cell?_setCell_other _ _ _ _ (ni _ 0 1 (by omega)), World.cell?_setCell_other _ _ _ _ (n23 _ _), World.cell?_setCell_other _ _ _ _ (n23 _ _), b1]; rfl)
  · unfold resW
    exact World.cell?_setCell_same' _ _ _ (by rw [World.cell?_setCell_other _ _ _ _ (ni _ 1 2 (by omega)), World.cell?_setCell_other _ _ _ _ (ni _ 0 2 (by omega)), World.cell?_setCell_other _ _ _ _ (n23 _ _), World.cell?_setCell_other _ _ _ _ (n23 _ _), b2]; rfl)
  · unfold resW
    have hO := Oth.refl (fun k => k = P2 ∨ k = P3) w
    exact ((((hO.set (p := ⟨P2, 0, none⟩) (.inl rfl) _).set (p := ⟨P2, 1, none⟩) (.inl rfl) _).set (p := ⟨P3, 0, none⟩) (.inr rfl) _).set (p := ⟨P3, 1, none⟩) (.inr rfl) _).set (p := ⟨P3, 2, none⟩) (.inr rfl) _
set_option maxRecDepth 100000 in
set_option maxHeartbeats 8000000 in
theorem gmod_any (p : Pg) (vw vf : Value) (vp vb : Nat → Value) (W : World) (h : PgIn W p vw vf vp vb) (hrg : p.rng) :
    Calls Tryd.prog 5 #[pgV vw vf] W (fun E W' => ∃ vt vm, E = .returned (.tuple #[.agg #[vt, vm], fltV p.gmod.2.2]) ∧ Below W.heap.size W W' ∧ ∃ l : List GR, l.map GR.g = p.gmod.2.1 ∧ GmAt W' W.heap.size vt vm p.gmod.1 l) := by
  obtain ⟨hw, hr, hpp, hbb⟩ := id h
  obtain ⟨aw, cw, rfl, hwc, hwc2⟩ := hw.row.form
  obtain ⟨a, cap, rfl, hncap, hcap⟩ := hr.form
  obtain ⟨n, hn⟩ : ∃ n, n = p.funcs.length := ⟨_, rfl⟩
  obtain ⟨m, hm⟩ : ∃ m, m = p.widen.length := ⟨_, rfl⟩
  have hn62 : n ≤ 9223372036854775807 := by have : maxLen ≤ 9223372036854775807 := by decide
                                            omega
  obtain ⟨P1, hP1⟩ : ∃ P, P = W.heap.size := ⟨_, rfl⟩
  obtain ⟨W1, hW1⟩ : ∃ W1, W1 = W.alloc (.cells #[.slice aw m cw, .slice a n cap] 25) := ⟨_, rfl⟩
  obtain ⟨P2, hP2⟩ : ∃ P, P = W.heap.size + 1 := ⟨_, rfl⟩
  obtain ⟨W2, hW2⟩ : ∃ W2, W2 = W1.alloc (.cells #[.slice none 0 0, .slice none 0 0] 29) := ⟨_, rfl⟩
  obtain ⟨P3, hP3⟩ : ∃ P, P = W.heap.size + 1 + 1 := ⟨_, rfl⟩
  obtain ⟨W3, hW3⟩ : ∃ W3, W3 = W2.alloc (.cells #[.int .i64 0, .int .i64 0, .int .i64 0] 32) := ⟨_, rfl⟩
  have hs1 : W1.heap.size = W.heap.size + 1 := by rw [hW1]; simp
  have hs2 : W2.heap.size = W.heap.size + 1 + 1 := by rw [hW2]; simp [hs1]
  have hs3 : W3.heap.size = W.heap.size + 3 := by rw [hW3]; simp [hs2]
  have hb3 : Below W.heap.size W W3 := by rw [hW3, hW2, hW1]; exact (((Below.refl _ _).alloc (Nat.le_refl _) _).alloc (by simp) _).alloc (by simp; omega) _
  have x10 : W3.cell? ⟨P1, 0, none⟩ = some (.slice aw m cw) := by
    rw [hW3, World.cell?_alloc_past _ _ _ (by rw [hs2, hP1]; omega), hW2, World.cell?_alloc_past _ _ _ (by rw [hs1, hP1]; omega), hW1, hP1]; exact World.cell?_alloc_at _ _ _ _ rfl
  have x11 : W3.cell? ⟨P1, 1, none⟩ = some (.slice a n cap) := by
    rw [hW3, World.cell?_alloc_past _ _ _ (by rw [hs2, hP1]; omega), hW2, World.cell?_alloc_past _ _ _ (by rw [hs1, hP1]; omega), hW1, hP1]; exact World.cell?_alloc_at _ _ _ _ rfl
  have hs1' := hs1.symm
  have hs2' := hs2.symm
  have x20 : W3.cell? ⟨P2, 0, none⟩ = some (.slice none 0 0) := by
    rw [hW3, World.cell?_alloc_past _ _ _ (by rw [hs2, hP2]; omega), hW2, hP2]; exact World.cell?_alloc_at _ _ _ _ (by rw [hs1])
  have x21 : W3.cell? ⟨P2, 1, none⟩ = some (.slice none 0 0) := by
    rw [hW3, World.cell?_alloc_past _ _ _ (by rw [hs2, hP2]; omega), hW2, hP2]; exact World.cell?_alloc_at _ _ _ _ (by rw [hs1])
  have x30 : W3.cell? ⟨P3, 0, none⟩ = some (.int .i64 0) := by rw [hW3, hP3]; exact World.cell?_alloc_at _ _ _ _ (by rw [hs2])
  have x31 : W3.cell? ⟨P3, 1, none⟩ = some (.int .i64 0) := by rw [hW3, hP3]; exact World.cell?_alloc_at _ _ _ _ (by rw [hs2])
  have x32 : W3.cell? ⟨P3, 2, none⟩ = some (.int .i64 0) := by rw [hW3, hP3]; exact World.cell?_alloc_at _ _ _ _ (by rw [hs2])
  have f2 : ∀ j, W3.frozen? ⟨P2, j, none⟩ = false := fun j => by
    rw [hW3, World.frozen?_alloc_past _ _ _ (by rw [hs2, hP2]; omega), hW2, hP2]; exact World.frozen?_alloc_at _ _ _ _ (by rw [hs1])
  have f3 : ∀ j, W3.frozen? ⟨P3, j, none⟩ = false := fun j => by rw [hW3, hP3]; exact World.frozen?_alloc_at _ _ _ _ (by rw [hs2])
  clear hs1' hs2'
  have Hl := Lib.hid (And.intro hm hn)
  rw [← hm, ← hn] at h
  rw [← hm, ← hn]
  have HR : Hid (ResAt W3 P2 P3) := ⟨⟨_, x20⟩, ⟨_, x21⟩, ⟨_, x30⟩, ⟨_, x31⟩, ⟨_, x32⟩, f2, f3, by rw [hP2, hP3]; omega⟩
  have H := Lib.hid (And.intro h (And.intro hrg (And.intro hr (And.intro hpp hbb))))
  have HP := Lib.hid (And.intro hP1 (And.intro hP2 (And.intro hP3 (And.intro hW1 (And.intro hW2 hW3)))))
  have HPb := Lib.hid (show (W.heap.size ≤ P1 ∧ W.heap.size ≤ P2 ∧ W.heap.size ≤ P3) ∧ W3.heap.size = W.heap.size + 3 ∧ Below W.heap.size W W3 from ⟨by omega, hs3, hb3⟩)
  have Hx := Lib.hid (And.intro x10 x11)
  have q1 := block_lt_of_cell x10
  clear h hrg hw hr hpp hbb hwc hwc2 hncap hcap hP1 hP2 hP3 hW1 hW2 hW3 hm hn hs1 hs2 hs3 hb3 x20 x21 x30 x31 x32 f2 f3
  unfold pgV
  go_enter Tryd.func5, Tryd.ntmps5
  go_upto_region 1 with (fail)
  rw [← HP.out.2.2.1, ← HP.out.2.1, ← HP.out.1, ← HP.out.2.2.2.1, ← HP.out.2.2.2.2.1, ← HP.out.2.2.2.2.2]
  obtain ⟨rf, hrf⟩ : ∃ r, r = p.rfault := ⟨_, rfl⟩
  have hck := rgCheck_any p (.slice aw m cw) (.slice a n cap) vp vb W3 (H.out.1.later HPb.out.2.2) H.out.2.1
  rw [← hrf] at hck
  unfold pgV fltV at hck
  have Hck := Lib.hid hck
  have Hrf := Lib.hid hrf
  clear hck hrf
  go_wp2_with fail
  refine Hck.out.mono ?_
  rintro E w4 ⟨rfl, hb4⟩
  have q1' : P1 < w4.heap.size := Nat.lt_of_lt_of_le q1 hb4.size
  obtain ⟨W5, hW5⟩ : ∃ W5, W5 = w4.alloc (.cells #[.int .i64 rf.1, .int .i64 rf.2.1, .int .i64 rf.2.2] 32) := ⟨_, rfl⟩
  obtain ⟨P4, hP4⟩ : ∃ P, P = w4.heap.size := ⟨_, rfl⟩
  have hb45 : Below w4.heap.size w4 W5 := by rw [hW5]; exact (Below.refl _ _).alloc (Nat.le_refl _) _
  have hb5 : Below W3.heap.size W3 W5 := hb4.trans (hb45.mono hb4.size)
  have y0 : W5.cell? ⟨P4, 0, none⟩ = some (.int .i64 rf.1) := by rw [hW5, hP4]; exact World.cell?_alloc_at _ _ _ _ rfl
  have y1 : W5.cell? ⟨P4, 1, none⟩ = some (.int .i64 rf.2.1) := by rw [hW5, hP4]; exact World.cell?_alloc_at _ _ _ _ rfl
  have y2 : W5.cell? ⟨P4, 2, none⟩ = some (.int .i64 rf.2.2) := by rw [hW5, hP4]; exact World.cell?_alloc_at _ _ _ _ rfl
  have x15 := (hb5.cell (p := ⟨P1, 0, none⟩) q1).trans x10
  have x16 := (hb5.cell (p := ⟨P1, 1, none⟩) q1).trans x11
  have HR5 := Lib.hid (HR.out.later hb5)
  have HW5 := Lib.hid (And.intro hW5 (And.intro hP4 (And.intro hb5 (show P4 ≠ P2 ∧ P4 ≠ P3 ∧ W.heap.size ≤ P4 by
    have h1 := HR.out.lt; have h2 := hb4.size; have h3 := HPb.out.2.1; omega))))
  clear hb4 hW5 hP4 hb45 hb5 x10 x11 Hck
  go_upto_region 2 with (fail)
  rw [← HW5.out.1, ← HW5.out.2.1]
  by_cases he : rf.1 = 0
  · have hb1 : (rf.1 != 0) = false := by simp [he]
    have hfl : p.fault.1 = 0 := (Pg.fault_of_rfault (by rw [← Hrf.out]; exact he)).1
    have hg := Pg.good hfl
    have hwl : p.widen.length ≤ 1000000 := by have h2 := Pg.widen_few hfl; omega
    obtain ⟨fin, hfin⟩ : ∃ f, f = restF p.funcs 0 [] (fun _ => 0) := ⟨_, rfl⟩
    have hgm : p.gmod = if fin.2.1 ≠ 0 then ([], [], fin.2) else (p.widen, fin) := by
      unfold Pg.gmod
      rw [← Hrf.out, if_neg (by rw [he]; decide), hfin]
      simp [restF]
    have Hg := Lib.hid (And.intro hfl (And.intro hg (And.intro hwl (And.intro hfin hgm))))
    have hn32 : n ≤ 32 := by have h1 := hg.1; have h2 := Hl.out.2; omega
    have hmm := @run_makeMap Tryd.prog
    clear he hfl hg hwl hfin hgm
    go_wp2_with fail
    have hp := gclone_any (.slice aw m cw) p.widen W5 (by have h1 := (H.out.1.later HPb.out.2.2).widen.later HW5.out.2.2.1; exact h1) Hg.out.2.2.1
    refine hp.mono ?_
    rintro E w6 ⟨vt, rfl, hvt, hb6⟩
    obtain ⟨ta, tn, tc, rfl⟩ := row_shape hvt
    clear hp x15 y0 y1 y2
    have x17 := (hb6.cell (p := ⟨P1, 1, none⟩) (block_lt_of_cell x16)).trans x16
    obtain ⟨O, hO⟩ : ∃ O, O = w6.heap.size := ⟨_, rfl⟩
    obtain ⟨W7, hW7⟩ : ∃ W7, W7 = w6.alloc (.cells #[.slice ta tn tc, .slice none 0 0] 29) := ⟨_, rfl⟩
    obtain ⟨W8, hW8⟩ : ∃ W8, W8 = W7.alloc (.map #[] 0) := ⟨_, rfl⟩
    obtain ⟨fm, hfm⟩ : ∃ k, k = w6.heap.size + 1 := ⟨_, rfl⟩
    obtain ⟨B8, hB8⟩ : ∃ k, k = W8.heap.size := ⟨_, rfl⟩
    obtain ⟨C5, hC5⟩ : ∃ k, k = W5.heap.size := ⟨_, rfl⟩
    have hs7 : W7.heap.size = w6.heap.size + 1 := by rw [hW7]; simp
    have hs8 : W8.heap.size = w6.heap.size + 2 := by rw [hW8]; simp [hs7]
    have hb67 : Below w6.heap.size w6 W7 := by rw [hW7]; exact (Below.refl _ _).alloc (Nat.le_refl _) _
    have hb78 : Below W7.heap.size W7 W8 := by rw [hW8]; exact (Below.refl _ _).alloc (Nat.le_refl _) _
    have hb68 : Below w6.heap.size w6 W8 := hb67.trans (hb78.mono hb67.size)
    have hMd : MdAt W8 C5 O fm B8 (.slice ta tn tc) (.slice none 0 0) p.widen [] (fun _ => 0) 0 := by
      have hq : O < W7.heap.size := by omega
      refine ⟨(hb78.cell (p := ⟨O, 0, none⟩) hq).trans (by rw [hW7, hO]; exact World.cell?_alloc_at _ _ _ _ rfl), (hb78.cell (p := ⟨O, 1, none⟩) hq).trans (by rw [hW7, hO]; exact World.cell?_alloc_at _ _ _ _ rfl), (hb78.frozen (p := ⟨O, 1, none⟩) hq).trans (by rw [hW7, hO]; exact World.frozen?_alloc_at _ _ _ _ rfl), ⟨?_, World.ownsRow_nil _ _ _ _, fun x hx => (by cases hx), List.Pairwise.nil, fun k _ => ⟨fun e => (by cases e), fun x hx => (by cases hx)⟩, fun k e => (by cases e)⟩, ⟨[], ?_, Nat.le_refl _⟩, fun x hx => (by cases hx), fun k e => (by cases e), fun k e => ?_, by omega, by omega⟩
      · exact ownsRow_below (by rw [hC5]; exact hvt) hb68 (Nat.le_refl _)
      · rw [hW8, hfm, ← hs7]; exact SMap.made W7
      · have h1 := (World.ownsRow.lt hvt k e).2; omega
    have x18 := (hb68.cell (p := ⟨P1, 1, none⟩) (block_lt_of_cell x17)).trans x17
    have hbW8 : Below W.heap.size W W8 := HPb.out.2.2.trans ((HW5.out.2.2.1.mono HPb.out.2.2.size).trans ((hb6.trans (hb68.mono hb6.size)).mono (Nat.le_trans HPb.out.2.2.size HW5.out.2.2.1.size)))
    have hR8 : ResAt W8 P2 P3 := (HR5.out.later hb6).later hb68
    have hC58 : P2 < C5 ∧ P3 < C5 ∧ W.heap.size ≤ C5 ∧ C5 ≤ W8.heap.size := by have h1 := HR5.out.lt; have h2 := hb6.size; have h3 := HPb.out.2.2.size; have h4 := HW5.out.2.2.1.size; omega
    have hPO : P2 < O ∧ P3 < O := by have h1 := HR5.out.lt; have h2 := hb6.size; omega
    have H8 := Lib.hid (And.intro hMd (And.intro hbW8 (And.intro hR8 (And.intro hPO (And.intro hB8 hC58)))))
    have HW8 := Lib.hid (And.intro hO (And.intro hfm (And.intro hW7 hW8)))
    clear hMd hbW8 hR8 hPO hB8 hC58 hC5 hs7 hs8 hb67 hb78 hb68 hb6 hvt x17 hO hfm hW7 hW8
    go_upto_region 6 with (fail)
    rw [← HW8.out.2.1, ← HW8.out.1, ← HW8.out.2.2.1, ← HW8.out.2.2.2]
    go_wp2_with fail
    go_loopg [29] n (fun g iv wx => ∃ (i : Nat) (F : ByteArray → Int) (l : List GR) (vm : Value), g = n - i ∧ iv = .int .i64 (i : Int) ∧ i ≤ n ∧ MdAt wx C5 O fm B8 (.slice ta tn tc) vm p.widen l F i ∧ Oth (fun k => k = O ∨ k = fm) W8 wx ∧ restF p.funcs i (l.map GR.g) F = fin ∧ l.length = i)
    case atStart => exact ⟨0, fun _ => 0, [], .slice none 0 0, rfl, rfl, Nat.zero_le _, H8.out.1, Oth.refl _ _, Hg.out.2.2.2.1.symm, rfl⟩
    case round =>
      obtain ⟨i, F, l, vm, hg, rfl, hi, hMd, hO, hrest, hll⟩ := hrel
      obtain ⟨Wr, hWr⟩ : ∃ Wr : World, Wr = wr := ⟨_, rfl⟩
      subst hWr
      have hBr : Below W.heap.size W Wr := H8.out.2.1.trans (hO.below H8.out.2.1.size fun k e => by
        have h1 := H8.out.1.ne; have h2 := HW8.out.1; have h3 := HPb.out.2; have h4 := HW5.out.2.2.1.size; have h5 := H8.out.2.2.2.1; have h6 := HPb.out.1
        rcases e with e | e <;> omega)
      by_cases hin : i < n
      · obtain ⟨f, hf⟩ : ∃ f, p.funcs[i]? = some f := ⟨_, List.getElem?_eq_getElem (by rw [← Hl.out.2]; exact hin)⟩
        obtain ⟨b', off, rfl, hb', hP⟩ := H.out.2.2.1.at (i := i) (by rw [← Hl.out.2]; exact hin)
        obtain ⟨ap, cp, hvp, hcp1, hcp2⟩ := (H.out.2.2.2.1 i f hf).form
        obtain ⟨ab, cb, hvb, hcb1, hcb2⟩ := (H.out.2.2.2.2 i f hf).form
        obtain ⟨np, hnp⟩ : ∃ k, k = f.params.length := ⟨_, rfl⟩
        obtain ⟨nb, hnb⟩ : ∃ k, k = f.body.length := ⟨_, rfl⟩
        have hc := (hP f hf).later hBr hb'
        rw [hvp, hvb, ← hnp, ← hnb] at hc
        obtain ⟨i0, i1, i2⟩ := hc
        have hgd := Hg.out.2.1.2 i f hf
        have hrp := H.out.2.2.2.1 i f hf
        have hrb := H.out.2.2.2.2 i f hf
        rw [hvp, ← hnp] at hrp
        rw [hvb, ← hnb] at hrb
        have hrn := restF_next hf (l.map GR.g) F
        rw [hrest] at hrn
        have hin2 : (i : Int) < (n : Int) := by omega
        have hd1 : decide ((i : Int) < (n : Int)) = true := decide_eq_true hin2
        have hd2 : decide (i < n) = true := decide_eq_true hin
        have hnp8 : np ≤ 8 := by have := hgd.few; omega
        have hfnm : f.name.size ≤ maxLen := by have := hgd.name; unfold maxLen; omega
        obtain ⟨Z, hZ⟩ : ∃ k, k = Wr.heap.size := ⟨_, rfl⟩
        obtain ⟨V, hV⟩ : ∃ k, k = Wr.heap.size + 1 := ⟨_, rfl⟩
        obtain ⟨M, hM⟩ : ∃ k, k = Wr.heap.size + 1 + 1 := ⟨_, rfl⟩
        obtain ⟨G, hG⟩ : ∃ k, k = Wr.heap.size + 1 + 1 + 1 := ⟨_, rfl⟩
        obtain ⟨W9, hW9⟩ : ∃ w : World, w = Wr.alloc (.cells #[.string f.name, .slice ap np cp, .slice ab nb cb] 40) := ⟨_, rfl⟩
        obtain ⟨W10, hW10⟩ : ∃ w : World, w = W9.alloc (.map #[] 0) := ⟨_, rfl⟩
        obtain ⟨W11, hW11⟩ : ∃ w : World, w = W10.alloc (.cells #[.slice none 0 0, .map (some fm), .map (some V), .int .i64 (np : Int), .int .i64 0, .slice none 0 0] 65) := ⟨_, rfl⟩
        obtain ⟨W12, hW12⟩ : ∃ w : World, w = W11.alloc (.cells #[.string f.name, .slice none 0 0, .int .i64 0, .int .i64 0, .slice none 0 0] 44) := ⟨_, rfl⟩
        have Hf := Lib.hid (And.intro hf (And.intro hnp (And.intro hgd (And.intro hrp (And.intro hrb (And.intro hrn hll))))))
        have Hr := Lib.hid (And.intro hMd (And.intro hO (And.intro hBr hg)))
        have HN := Lib.hid (And.intro hZ (And.intro hV (And.intro hM (And.intro hG (And.intro hW9 (And.intro hW10 (And.intro hW11 hW12)))))))
        clear hP hcp1 hcp2 hcb1 hcb2 hvp hvb hnp hnb hgd hrp hrb hrn hll hMd hO hBr hg hZ hV hM hG hW9 hW10 hW11 hW12 hrest hi hb'
        have hs9 : W9.heap.size = Wr.heap.size + 1 := by rw [HN.out.2.2.2.2.1]; simp
        have hs10 : W10.heap.size = Wr.heap.size + 2 := by rw [HN.out.2.2.2.2.2.1]; simp [hs9]
        have hs11 : W11.heap.size = Wr.heap.size + 3 := by rw [HN.out.2.2.2.2.2.2.1]; simp [hs10]
        have hs12 : W12.heap.size = Wr.heap.size + 4 := by rw [HN.out.2.2.2.2.2.2.2]; simp [hs11]
        have hb9 : Below Wr.heap.size Wr W9 := by rw [HN.out.2.2.2.2.1]; exact (Below.refl _ _).alloc (Nat.le_refl _) _
        have hb10 : Below W9.heap.size W9 W10 := by rw [HN.out.2.2.2.2.2.1]; exact (Below.refl _ _).alloc (Nat.le_refl _) _
        have hb11 : Below W10.heap.size W10 W11 := by rw [HN.out.2.2.2.2.2.2.1]; exact (Below.refl _ _).alloc (Nat.le_refl _) _
        have hb12 : Below W11.heap.size W11 W12 := by rw [HN.out.2.2.2.2.2.2.2]; exact (Below.refl _ _).alloc (Nat.le_refl _) _
        have hZ12 : W12.cell? ⟨Z, 0, none⟩ = some (.string f.name) ∧ W12.cell? ⟨Z, 2, none⟩ = some (.slice ab nb cb) := by
          have q9 : Z < W9.heap.size := by rw [hs9, HN.out.1]; omega
          have q10 : Z < W10.heap.size := by rw [hs10, HN.out.1]; omega
          have q11 : Z < W11.heap.size := by rw [hs11, HN.out.1]; omega
          have e9 : W9.cell? ⟨Z, 0, none⟩ = some (.string f.name) ∧ W9.cell? ⟨Z, 2, none⟩ = some (.slice ab nb cb) := by rw [HN.out.2.2.2.2.1]; exact ⟨World.cell?_alloc_at _ _ _ _ HN.out.1, World.cell?_alloc_at _ _ _ _ HN.out.1⟩
          exact ⟨(hb12.cell (p := ⟨Z, 0, none⟩) q11).trans ((hb11.cell (p := ⟨Z, 0, none⟩) q10).trans ((hb10.cell (p := ⟨Z, 0, none⟩) q9).trans e9.1)), (hb12.cell (p := ⟨Z, 2, none⟩) q11).trans ((hb11.cell (p := ⟨Z, 2, none⟩) q10).trans ((hb10.cell (p := ⟨Z, 2, none⟩) q9).trans e9.2))⟩
        have hV12 : PMap W12 V [] (fun _ => noPlc) := by
          have e10 : PMap W10 V [] (fun _ => noPlc) := by rw [HN.out.2.2.2.2.2.1, show V = W9.heap.size by rw [hs9]; exact HN.out.2.1]; exact PMap.made W9
          have q10 := e10.lt
          exact e10.at_block ((hb12.block V (by omega)).trans (hb11.block V q10))
        have hM12 : ∀ j u, (#[.slice none 0 0, .map (some fm), .map (some V), .int .i64 (np : Int), .int .i64 0, .slice none 0 0] : Array Value)[j]? = some u → W12.cell? ⟨M, j, none⟩ = some u := fun j u hu => by
          have q11 : M < W11.heap.size := by rw [hs11, HN.out.2.2.1]; omega
          refine (hb12.cell (p := ⟨M, j, none⟩) q11).trans ?_
          rw [HN.out.2.2.2.2.2.2.1, World.cell?_alloc_at _ _ _ _ (show M = W10.heap.size by rw [hs10]; exact HN.out.2.2.1)]
          exact hu
        have hMf12 : ∀ j, W12.frozen? ⟨M, j, none⟩ = false := fun j => by
          have q11 : M < W11.heap.size := by rw [hs11, HN.out.2.2.1]; omega
          refine (hb12.frozen (p := ⟨M, j, none⟩) q11).trans ?_
          rw [HN.out.2.2.2.2.2.2.1]
          exact World.frozen?_alloc_at _ _ _ _ (show M = W10.heap.size by rw [hs10]; exact HN.out.2.2.1)
        have hGe : G = W11.heap.size := by rw [hs11]; exact HN.out.2.2.2.1
        have hG12 : GbAt W12 G Wr.heap.size f.name (.slice none 0 0) [] := by
          rw [HN.out.2.2.2.2.2.2.2]
          exact ⟨World.cell?_alloc_at _ _ _ _ hGe, World.cell?_alloc_at _ _ _ _ hGe, World.cell?_alloc_at _ _ _ _ hGe, World.cell?_alloc_at _ _ _ _ hGe, World.cell?_alloc_at _ _ _ _ hGe, fun j => World.frozen?_alloc_at _ _ _ _ hGe, World.ownsRow_nil _ _ _ _, fun k e => (by cases e)⟩
        have hb : Below Wr.heap.size Wr W12 := hb9.trans ((hb10.trans ((hb11.trans (hb12.mono hb11.size)).mono hb10.size)).mono hb9.size)
        have HK := Lib.hid (And.intro hZ12 (And.intro hV12 (And.intro hM12 (And.intro hMf12 (And.intro hG12 (And.intro hb (And.intro hs12 (And.intro (show Z = Wr.heap.size ∧ V = Wr.heap.size + 1 ∧ M = Wr.heap.size + 2 ∧ G = Wr.heap.size + 3 from ⟨HN.out.1, HN.out.2.1, HN.out.2.2.1, HN.out.2.2.2.1⟩) True.intro))))))))
        clear hs9 hs10 hs11 hs12 hb9 hb10 hb11 hb12 hZ12 hV12 hM12 hMf12 hGe hG12 hb
        go_wp2_with fail
        rw [← HN.out.2.2.2.1, ← HN.out.2.2.1, ← HN.out.2.1, ← HN.out.1, ← HN.out.2.2.2.2.1, ← HN.out.2.2.2.2.2.1, ← HN.out.2.2.2.2.2.2.1, ← HN.out.2.2.2.2.2.2.2]
        obtain ⟨B0, hB0⟩ : ∃ k, k = Wr.heap.size := ⟨_, rfl⟩
        have HB0 := Lib.hid hB0
        clear i0 i1 i2 hB0
        go_loopg [48] np (fun g kv wx => ∃ (k : Nat) (S : List ByteArray) (pv : Value), g = np - k ∧ kv = .int .i64 (k : Int) ∧ k ≤ np ∧ PMap wx V S (gnV0 (f.params.take k) 0 (fun _ => noPlc)) ∧ S.length ≤ k ∧ GbAt wx G B0 f.name pv ((f.params.take k).map fun x => (x.lo, x.hi)) ∧ Oth (fun j => j = V ∨ j = G) W12 wx)
        case atStart => exact ⟨0, [], .slice none 0 0, rfl, rfl, Nat.zero_le _, HK.out.2.1, Nat.le_refl _, by rw [HB0.out]; exact HK.out.2.2.2.2.1, Oth.refl _ _⟩
        case round =>
          obtain ⟨k, S, pv, hgk, rfl, hk, hPM, hSn, hGb, hO2⟩ := hrel
          by_cases hkn : k < np
          · obtain ⟨x, hx⟩ : ∃ x, f.params[k]? = some x := ⟨_, List.getElem?_eq_getElem (by rw [← Hf.out.2.1]; exact hkn)⟩
            obtain ⟨bp, op, rfl, hbp, hPP⟩ := Hf.out.2.2.2.1.at (i := k) hkn
            have hK0 := HK.out.2.2.2.2.2.2.2.1
            have hB2 : Below Wr.heap.size Wr wr := HK.out.2.2.2.2.2.1.trans (hO2.below (by rw [HK.out.2.2.2.2.2.2.1]; omega) fun j e => by rcases e with e | e <;> omega)
            obtain ⟨j0, j1, j2⟩ := (hPP x hx).later (Hr.out.2.2.1.trans (hB2.mono Hr.out.2.2.1.size)) hbp
            have hxs : x.name.size ≤ maxLen := by have := Hf.out.2.2.1.params x (List.mem_of_getElem? hx); unfold maxLen; omega
            obtain ⟨W13, hW13⟩ : ∃ w : World, w = wr.alloc (.cells #[.string x.name, .int .i64 x.lo, .int .i64 x.hi] 49) := ⟨_, rfl⟩
            obtain ⟨Y, hY⟩ : ∃ k, k = wr.heap.size := ⟨_, rfl⟩
            have hb13 : Below wr.heap.size wr W13 := by rw [hW13]; exact (Below.refl _ _).alloc (Nat.le_refl _) _
            have y0 : W13.cell? ⟨Y, 0, none⟩ = some (.string x.name) := by rw [hW13, hY]; exact World.cell?_alloc_at _ _ _ _ rfl
            have y1 : W13.cell? ⟨Y, 1, none⟩ = some (.int .i64 x.lo) := by rw [hW13, hY]; exact World.cell?_alloc_at _ _ _ _ rfl
            have y2 : W13.cell? ⟨Y, 2, none⟩ = some (.int .i64 x.hi) := by rw [hW13, hY]; exact World.cell?_alloc_at _ _ _ _ rfl
            have qM : M < W12.heap.size := by rw [HK.out.2.2.2.2.2.2.1]; omega
            have nMVG : ¬ (M = V ∨ M = G) := by omega
            have m2 : W13.cell? ⟨M, 2, none⟩ = some (.map (some V)) := (hb13.cell (p := ⟨M, 2, none⟩) (Nat.lt_of_lt_of_le qM hO2.size)).trans ((hO2.cell (p := ⟨M, 2, none⟩) qM nMVG).trans (HK.out.2.2.1 2 _ rfl))
            have hq13 : Y ≠ V ∧ Y ≠ G ∧ G < Y := by have h1 := hO2.size; have h2 := HK.out.2.2.2.2.2.2.1; omega
            have hin3 : (k : Int) < (np : Int) := by omega
            have hd3 : decide ((k : Int) < (np : Int)) = true := decide_eq_true hin3
            have hd4 : decide (k < np) = true := decide_eq_true hkn
            have H13 := Lib.hid (And.intro (hPM.at_block (hb13.block V hPM.lt)) (And.intro (hGb.oth (T := fun _ => False) (.of_below hb13) (fun j e => e.elim)) (And.intro (hO2.more (T' := fun _ => False) (.of_below hb13) fun j e => e.elim) (And.intro hx (And.intro hgk (And.intro hSn hq13))))))
            have HW13 := Lib.hid (And.intro hW13 hY)
            have q0 := block_lt_of_cell y0
            have qm := block_lt_of_cell m2
            clear hPP hbp hPM hGb hO2 hW13 hY hb13 hgk hx hSn hq13 hk hB2 qM hK0 nMVG
            go_upto_region 15 with (fail)
            rw [← HW13.out.2, ← HW13.out.1]
            refine wp_region_heldZ (S := fun w => w.cell? ⟨M, 2, none⟩ = some (.map (some V)) ∧ w.cell? ⟨Y, 0, none⟩ = some (.string x.name)) (z := 8) rfl ?_
            change wpAnyZ _ _ _ _ _ _ _ _ _ W13.drew
            obtain ⟨W0, hW0⟩ : ∃ W0, W0 = W13.drew := ⟨_, rfl⟩
            rw [← hW0]
            have hb0 : Below W13.heap.size W13 W0 := by rw [hW0]; exact (Below.refl _ _).drew
            have Hb : Hid (W0.cell? ⟨M, 2, none⟩ = some (.map (some V)) ∧ W0.cell? ⟨Y, 0, none⟩ = some (.string x.name)) := ⟨(hb0.cell (p := ⟨M, 2, none⟩) qm).trans m2, (hb0.cell (p := ⟨Y, 0, none⟩) q0).trans y0⟩
            have H0 := Lib.hid (And.intro (H13.out.1.at_block (hb0.block V H13.out.1.lt)) (And.intro (H13.out.2.1.oth (T := fun _ => False) (.of_below hb0) (fun j e => e.elim)) (And.intro (H13.out.2.2.1.more (T' := fun _ => False) (.of_below hb0) fun j e => e.elim) (And.intro ((hb0.cell (p := ⟨Y, 1, none⟩) q0).trans y1) (And.intro ((hb0.cell (p := ⟨Y, 2, none⟩) q0).trans y2) (Nat.lt_of_lt_of_le q0 hb0.size))))))
            clear hb0 hW0 y0 y1 y2 m2 j0 j1 j2 qm q0
            refine wpAnyZ_take (i := 0) (by simp only [List.getElem?_toArray, List.getElem?_cons_zero]; rfl) (by kernel_rfl) (by kernel_rfl) (by kernel_rfl) (by kernel_rfl) (by intro _ _ _ h; exact h) (Or.inl ⟨by rfl, fun w hw => by (obtain ⟨k0, k1⟩ := hw; go_simp; try rfl)⟩) Hb.out ?_
            refine wpAnyZ_take (i := 1) (by simp only [List.getElem?_toArray, List.getElem?_cons_succ, List.getElem?_cons_zero]; rfl) (by kernel_rfl) (by kernel_rfl) (by kernel_rfl) (by kernel_rfl) (by intro _ _ _ h; exact h) (Or.inl ⟨by rfl, fun w hw => by (obtain ⟨k0, k1⟩ := hw; go_simp; try rfl)⟩) Hb.out ?_
            go_frame
            refine wpAnyZ_take (i := 2) (by simp only [List.getElem?_toArray, List.getElem?_cons_succ, List.getElem?_cons_zero]; rfl) (by kernel_rfl) (by kernel_rfl) (by kernel_rfl) (by kernel_rfl) (by intro _ _ _ h; exact h) (Or.inl ⟨by rfl, fun w hw => by (obtain ⟨k0, k1⟩ := hw; go_simp; try rfl)⟩) Hb.out ?_
            refine wpAnyZ_take (i := 3) (by simp only [List.getElem?_toArray, List.getElem?_cons_succ, List.getElem?_cons_zero]; rfl) (by kernel_rfl) (by kernel_rfl) (by kernel_rfl) (by kernel_rfl) (by intro _ _ _ h; exact h) (Or.inl ⟨by rfl, fun w hw => by (obtain ⟨k0, k1⟩ := hw; go_simp; try rfl)⟩) Hb.out ?_
            go_frame
            refine wpAnyZ_take (i := 4) (by simp only [List.getElem?_toArray, List.getElem?_cons_succ, List.getElem?_cons_zero]; rfl) (by kernel_rfl) (by kernel_rfl) (by kernel_rfl) (by kernel_rfl) (by intro _ _ _ h; exact h) (Or.inl ⟨by rfl, fun w hw => by (obtain ⟨k0, k1⟩ := hw; go_simp; try rfl)⟩) Hb.out ?_
            refine wpAnyZ_take (i := 5) (by simp only [List.getElem?_toArray, List.getElem?_cons_succ, List.getElem?_cons_zero]; rfl) (by kernel_rfl) (by kernel_rfl) (by kernel_rfl) (by kernel_rfl) (by intro _ _ _ h; exact h) (Or.inl ⟨by rfl, fun w hw => by (obtain ⟨k0, k1⟩ := hw; go_simp; try rfl)⟩) Hb.out ?_
            go_frame
            refine wpAnyZ_take (i := 6) (by simp only [List.getElem?_toArray, List.getElem?_cons_succ, List.getElem?_cons_zero]; rfl) (by kernel_rfl) (by kernel_rfl) (by kernel_rfl) (by kernel_rfl) (by intro _ _ _ h; exact h) (Or.inl ⟨by rfl, fun w hw => by (obtain ⟨k0, k1⟩ := hw; go_simp; try rfl)⟩) Hb.out ?_
            refine wpAnyZ_take (i := 7) (by simp only [List.getElem?_toArray, List.getElem?_cons_succ, List.getElem?_cons_zero]; rfl) (by kernel_rfl) (by kernel_rfl) (by kernel_rfl) (by kernel_rfl) (by intro _ _ _ h; exact h) (Or.inl ⟨by rfl, fun w hw => by (obtain ⟨k0, k1⟩ := hw; go_simp; try rfl)⟩) Hb.out ?_
            go_frame
            refine wpAnyZ_next (i := 8) (by kernel_rfl) (by simp only [List.getElem?_toArray, List.getElem?_cons_succ, List.getElem?_cons_zero]; rfl) (fun Kc hKc => ?_)
            obtain ⟨w14, hrun, hp14, hO14⟩ := H0.out.1.put (by have := H13.out.2.2.2.2.2.1; omega) x.name hxs ⟨(k : Int), 0, 0⟩
            have nY : ¬ Y = V := H13.out.2.2.2.2.2.2.1
            have hVG : V < G := by have := HK.out.2.2.2.2.2.2.2.1; omega
            have y14 := (hO14.cell (p := ⟨Y, 1, none⟩) H0.out.2.2.2.2.2 nY).trans H0.out.2.2.2.1
            have y24 := (hO14.cell (p := ⟨Y, 2, none⟩) H0.out.2.2.2.2.2 nY).trans H0.out.2.2.2.2.1
            have H14 := Lib.hid (And.intro hp14 (And.intro (H0.out.2.1.oth hO14 (fun j e => by omega)) (H0.out.2.2.1.more hO14 fun j e => .inl (.inl e))))
            unfold plcV at hrun
            clear hp14 hO14 nY
            go_simp
            refine hKc.out _ _ (fun h => absurd rfl h) ?_
            clear hKc Kc hrun
            refine wpAnyZ_done (by kernel_rfl) ?_ _
            have g1 := H14.out.2.1.c1
            have hpl : ((f.params.take k).map fun x => (x.lo, x.hi)).length ≤ 1000000000000 := by simp; omega
            have hB0w : B0 ≤ w14.heap.size := by have h1 := HB0.out; have h2 := block_lt_of_cell g1; have h3 := HK.out.2.2.2.2.2.2.2.1; have h4 : G < w14.heap.size := h2; omega
            go_upto_region 17 with (at_builtin; refine append_prr_at rfl _ _ rfl B0 pv _ rfl H14.out.2.1.own x.lo x.hi rfl hpl hB0w ?_; intro v9 w9 hown9 hO9 hf9; obtain ⟨a9, n9, c9, rfl⟩ := row_shape hown9; have HG9 := Lib.hid (And.intro (H14.out.2.1.more hown9 hO9 hf9) (H14.out.1.at_block (hO9.block V H14.out.1.lt (fun e => by have h1 := H14.out.2.1.ne V e; omega)))); clear hown9 hO9 hf9; have z0 := HG9.out.1.1.1; have z1 := HG9.out.1.1.2)
            obtain ⟨w10, hw10⟩ : ∃ w, w = w9.setCell ⟨G, 1, none⟩ (.slice a9 n9 c9) := ⟨_, rfl⟩
            rw [← hw10]
            have HE : Hid (PMap w10 V (insS S x.name) (gnV0 (f.params.take (k + 1)) 0 (fun _ => noPlc)) ∧ GbAt w10 G B0 f.name (.slice a9 n9 c9) ((f.params.take (k + 1)).map fun x => (x.lo, x.hi)) ∧ Oth (fun j => j = V ∨ j = G) W12 w10) := by
              have h1 := HG9.out
              rw [← hw10] at h1
              have htk := take_next H13.out.2.2.2.1
              refine ⟨?_, ?_, H14.out.2.2.more h1.1.2.2 fun j e => ?_⟩
              · rw [htk, gnV0_snoc, List.length_take, Nat.zero_add, Nat.min_eq_left (by have := Hf.out.2.1; omega), hw10]
                exact h1.2.at_block ((Oth.refl (· = G) w9).set (p := ⟨G, 1, none⟩) rfl _ |>.block V h1.2.lt (by omega))
              · rw [htk, List.map_append]; exact h1.1.2.1
              · rcases e with e | e
                · exact .inl (.inr e)
                · have h2 := H14.out.2.1.ne j e
                  have h3 := HK.out.2.2.2.2.2.2
                  exact .inr (by omega)
            clear hw10 z0 z1 g1 y14 y24
            go_wp2_with fail
            go_roundg (np - (k + 1))
            case measure => have := H13.out.2.2.2.2.1; omega
            case rel => exact ⟨k + 1, insS S x.name, .slice a9 n9 c9, rfl, by go_num, hkn, HE.out.1, by have h1 := insS_len S x.name; have h2 := H13.out.2.2.2.2.2.1; omega, HE.out.2.1, HE.out.2.2⟩
          · obtain rfl : np = k := by omega
            have htk : f.params.take np = f.params := List.take_of_length_le (by rw [← Hf.out.2.1]; exact Nat.le_refl _)
            rw [htk] at hPM hGb
            have hK0 := HK.out.2.2.2.2.2.2.2.1
            have hKs := HK.out.2.2.2.2.2.2.1
            have hB2 : Below Wr.heap.size Wr wr := HK.out.2.2.2.2.2.1.trans (hO2.below (by rw [hKs]; omega) fun j e => by rcases e with e | e <;> omega)
            have hBW : Below W.heap.size W wr := Hr.out.2.2.1.trans (hB2.mono Hr.out.2.2.1.size)
            have qM : M < W12.heap.size := by omega
            have qZ : Z < W12.heap.size := by omega
            have nMVG : ¬ (M = V ∨ M = G) := by omega
            have nZVG : ¬ (Z = V ∨ Z = G) := by omega
            have hMc : ∀ j u, (#[.slice none 0 0, .map (some fm), .map (some V), .int .i64 (np : Int), .int .i64 0, .slice none 0 0] : Array Value)[j]? = some u → wr.cell? ⟨M, j, none⟩ = some u := fun j u hu => (hO2.cell (p := ⟨M, j, none⟩) qM nMVG).trans (HK.out.2.2.1 j u hu)
            have hMf : ∀ j, wr.frozen? ⟨M, j, none⟩ = false := fun j => (hO2.frozen (p := ⟨M, j, none⟩) qM nMVG).trans (HK.out.2.2.2.1 j)
            have z0 := (hO2.cell (p := ⟨Z, 0, none⟩) qZ nZVG).trans HK.out.1.1
            have z2 := (hO2.cell (p := ⟨Z, 2, none⟩) qZ nZVG).trans HK.out.1.2
            obtain ⟨SF, hSF, hSFn⟩ := (Hr.out.1.keep hB2).map
            obtain ⟨m0, hm0⟩ : ∃ m0 : Mk, m0 = ⟨M, fm, V, .slice none 0 0, .slice none 0 0⟩ := ⟨_, rfl⟩
            obtain ⟨s0, hs0⟩ : ∃ s0 : GS, s0 = ⟨[], gnV0 f.params 0 (fun _ => noPlc), (np : Int), 0, []⟩ := ⟨_, rfl⟩
            have hfmW : W.heap.size ≤ fm ∧ fm < Wr.heap.size := by have h1 := H8.out.2.2.2.1; have h2 := HPb.out.1; have h3 := Hr.out.1.ne; have h4 := Hr.out.1.big; omega
            have hWr : W.heap.size ≤ Wr.heap.size := Hr.out.2.2.1.size
            have hMk : MkAt wr W.heap.size m0 F 8 s0 := by
              rw [hm0, hs0]
              exact ⟨hMc 0 _ rfl, hMc 1 _ rfl, hMc 2 _ rfl, hMc 3 _ rfl, hMc 4 _ rfl, hMc 5 _ rfl, hMf, World.ownsRow_nil _ _ _ _, ⟨SF, hSF⟩, ⟨S, hPM, by omega⟩, ⟨[], World.ownsRow_nil _ _ _ _, fun i p hp => by simp at hp⟩, fun p hp => (by cases hp), ⟨hfmW.1, by show W.heap.size ≤ V; omega, by show W.heap.size ≤ M; omega⟩, ⟨by show fm ≠ V; omega, by show fm ≠ M; omega, by show V ≠ M; omega⟩, fun k e => (by cases e), fun k e => (by cases e), gnV0_reg _ _ _ (by have := Hf.out.2.1; omega) (fun y => ⟨Int.le_refl _, by show (0 : Int) ≤ 1000000000000; decide⟩)⟩
            have hT0 : ∀ k, m0.T k → k = M ∨ k = V := by
              rw [hm0]
              rintro k (e | e | e | e)
              · exact .inl e
              · exact .inr e
              · cases e
              · cases e
            have hgl := glist_any f.body (.slice ab nb cb) W Hf.out.2.2.2.2.1 (St.fits_of_chks f.body 1 (Pg.chks_at Hg.out.1 Hf.out.1))
            have hlen := St.gns_len F f.body (gnV0 f.params 0 (fun _ => noPlc)) 0 0 (np : Int) []
            obtain ⟨o, ho⟩ : ∃ o, o = St.gns F f.body (gnV0 f.params 0 (fun _ => noPlc)) 0 0 (np : Int) [] := ⟨_, rfl⟩
            rw [← ho] at hlen
            have htot := Hf.out.2.2.1.total
            have hp := hgl wr W.heap.size m0 F 8 s0 (np : Int) hBW (Nat.le_refl _) hMk (by omega) (by omega) (by omega) (by rw [hs0]; simp; omega) (by rw [hs0]; show 0 + _ ≤ _; simp only [List.length_nil]; rw [← ho]; omega)
            have hmb : m0.b = M := by rw [hm0]
            rw [hmb, show St.gns F f.body s0.V s0.words s0.code.length (np : Int) [] = o from by rw [hs0]; exact ho.symm] at hp
            obtain ⟨s3, hs3, hs3c, hs3r, hs3w⟩ := gnFun_of F f np Hf.out.2.1 o ho
            rw [← hs0] at hs3
            have hB2' := Lib.hid hB2
            have Hp := Lib.hid hp
            have HM0 := Lib.hid (And.intro hT0 (And.intro hmb (And.intro hs3 (And.intro hs3c (And.intro hs3r (And.intro hs3w (And.intro hlen (And.intro htot (show s0.code.length = 0 by rw [hs0]; rfl)))))))))
            have HG0 := Lib.hid (And.intro hGb (And.intro hK0 (And.intro hKs (And.intro hO2.size (And.intro hBW (And.intro hWr hfmW))))))
            have qZr : Z < wr.heap.size := Nat.lt_of_lt_of_le qZ hO2.size
            clear hgk hk hkn htk hPM hGb hSn hO2 hK0 hKs hB2 hBW qM qZ nMVG nZVG hMc hMf hSF hSFn hm0 hs0 hMk hT0 hgl hlen ho htot hp hmb hs3 hs3c hs3r hs3w hWr hfmW
            unfold ptrV at *
            go_wp2_with fail
            refine Hp.out.mono ?_
            rintro E w20 ⟨rfl, m1, hM1, hG1⟩
            have H20 := Lib.hid (And.intro hM1 (And.intro hG1 (hG1.b.trans HM0.out.2.1)))
            clear hM1 hG1 Hp z2
            have z01 := (H20.out.2.1.cell (p := ⟨Z, 0, none⟩) qZr (fun e => by have h1 := HM0.out.1 Z e; have h2 := HG0.out.2.1; omega)).trans z0
            clear z0
            go_wp2_with fail
            have hp := put_any ⟨1, (np : Int), 0, 0, 0⟩ (regs3 (by omega) zero12 zero12 _ _) w20 W.heap.size m1 F _ _ H20.out.1 (by rw [GS.out_len, HM0.out.2.2.2.2.2.2.2.2]; have h1 := HM0.out.2.2.2.2.2.2.1; have h2 := HM0.out.2.2.2.2.2.2.2.1; omega)
            rw [H20.out.2.2] at hp
            unfold ptrV insV at hp
            refine hp.mono ?_
            rintro E w21 ⟨rfl, m2, hM2, hG2⟩
            clear hp
            have H21 := Lib.hid (And.intro hM2 (And.intro (H20.out.2.1.trans hG2) (hG2.b.trans H20.out.2.2)))
            clear hM2 hG2
            go_wp2_with fail
            have hp := put_any ⟨0, (np : Int), 0, 0, 0⟩ (regs3 (by omega) zero12 zero12 _ _) w21 W.heap.size m2 F _ _ H21.out.1 (by rw [GS.add_len, GS.out_len, HM0.out.2.2.2.2.2.2.2.2]; simp only [List.length_cons, List.length_nil]; have h1 := HM0.out.2.2.2.2.2.2.1; have h2 := HM0.out.2.2.2.2.2.2.2.1; omega)
            rw [H21.out.2.2, ← HM0.out.2.2.1] at hp
            unfold ptrV insV at hp
            refine hp.mono ?_
            rintro E w22 ⟨rfl, m3, hM3, hG3⟩
            clear hp
            have hGs := H21.out.2.1.trans hG3
            have hmb3 : m3.b = M := hG3.b.trans H21.out.2.2
            have hTG : ∀ k, m0.T k → k < G ∧ Wr.heap.size ≤ k := fun k e => by have h1 := HM0.out.1 k e; have h2 := HG0.out.2.1; omega
            have hBq : Below Wr.heap.size Wr w22 := hGs.below hB2'.out fun k e => (hTG k e).2
            have hGb22 := HG0.out.1.oth hGs.oth (fun k e => (hTG k e).1)
            have hR22 : ResAt w22 P2 P3 := (H8.out.2.2.1.oth Hr.out.2.1 (by have h1 := H8.out.2.2.2.1; have h2 := Hr.out.1.ne; rintro (e | e) <;> omega) (by have h1 := H8.out.2.2.2.1; have h2 := Hr.out.1.ne; rintro (e | e) <;> omega)).later hBq
            have nZT : ¬ m0.T Z := fun e => by have h1 := HM0.out.1 Z e; have h2 := HG0.out.2.1; omega
            have z02 : w22.cell? ⟨Z, 0, none⟩ = some (.string f.name) := (hGs.cell (p := ⟨Z, 0, none⟩) qZr nZT).trans ((H20.out.2.1.cell (p := ⟨Z, 0, none⟩) qZr nZT).symm.trans z01)
            obtain ⟨g, hgg⟩ : ∃ g, g = gnFun F f := ⟨_, rfl⟩
            obtain ⟨wd, hwd⟩ : ∃ z, z = s3.words := ⟨_, rfl⟩
            obtain ⟨rg, hrg⟩ : ∃ z, z = s3.regs := ⟨_, rfl⟩
            obtain ⟨ca, cn, cc, hcv⟩ := row_shape hM3.code
            have hcn : cn = s3.code.length := by
              have h1 := hM3.code.1
              rcases hM3.code.2 with ⟨e, e0⟩ | ⟨gg, c2, cur, e, _⟩ <;> rw [hcv] at e <;> cases e <;> omega
            have c0 := hM3.c0
            have c3 := hM3.c3
            have c4 := hM3.c4
            rw [hmb3] at c0 c3 c4
            rw [hcv] at c0
            rw [← hrg] at c3
            rw [← hwd] at c4
            have HQw : Hid (g.words = wd ∧ g.regs = rg ∧ g.code.length = cn) := ⟨by rw [hgg, hwd]; exact HM0.out.2.2.2.2.2.1.symm, by rw [hgg, hrg]; exact HM0.out.2.2.2.2.1.symm, by rw [hgg, hcn, HM0.out.2.2.2.1]⟩
            have HQ := Lib.hid (And.intro hM3 (And.intro (Hr.out.2.2.1.trans (hBq.mono Hr.out.2.2.1.size)) (And.intro hR22 (And.intro (And.intro hBq (And.intro hGb22 (And.intro hGs (And.intro hmb3 (And.intro hcv (And.intro hTG (HM0.out.2.2.2.1)))))) ) hgg))))
            have qM22 := block_lt_of_cell c0
            clear hM3 hG3 hGs hmb3 hTG hBq hGb22 hR22 nZT hgg hwd hrg hcv hcn z01
            by_cases hw : 4096 < wd
            · have hdw : decide ((4096 : Int) < wd) = true := decide_eq_true hw
              have hw' : wd > 4096 := hw
              have hput := HQ.out.2.2.1.put (.slice none 0 0) (.slice none 0 0) (.int .i64 96) (.int .i64 (i : Int)) (.int .i64 0)
              have hbad : g.bad = 96 := by unfold GFun.bad; rw [HQw.out.1, HQw.out.2.1, HQw.out.2.2]; exact if_pos hw
              have hfin : fin = (l.map GR.g, (96, (i : Int), 0)) := by
                have h1 := Hf.out.2.2.2.2.2.1
                rw [← HQ.out.2.2.2.2, hbad, if_pos (by decide)] at h1
                exact h1
              have hgm : p.gmod = ([], [], (96, (i : Int), 0)) := by rw [Hg.out.2.2.2.2, hfin, if_pos (by show (96 : Int) ≠ 0; decide)]
              obtain ⟨u0, a0⟩ := HQ.out.2.2.1.a0
              obtain ⟨u1, a1⟩ := HQ.out.2.2.1.a1
              obtain ⟨v0, b0⟩ := HQ.out.2.2.1.b0
              obtain ⟨v1, b1⟩ := HQ.out.2.2.1.b1
              obtain ⟨v2, b2⟩ := HQ.out.2.2.1.b2
              have fa0 := HQ.out.2.2.1.fa 0
              have fa1 := HQ.out.2.2.1.fa 1
              have hOx : Oth (· = P2) w22 ((w22.setCell ⟨P2, 0, none⟩ (.slice none 0 0)).setCell ⟨P2, 1, none⟩ (.slice none 0 0)) := ((Oth.refl (· = P2) w22).set (p := ⟨P2, 0, none⟩) rfl _).set (p := ⟨P2, 1, none⟩) rfl _
              have q3 := HQ.out.2.2.1.lt.2
              have n32 : ¬ P3 = P2 := fun e => HQ.out.2.2.1.ne e.symm
              have k0 := (hOx.cell (p := ⟨P3, 0, none⟩) q3 n32).trans b0
              have k1 := (hOx.cell (p := ⟨P3, 1, none⟩) q3 n32).trans b1
              have k2 := (hOx.cell (p := ⟨P3, 2, none⟩) q3 n32).trans b2
              have kf0 := (hOx.frozen (p := ⟨P3, 0, none⟩) q3 n32).trans (HQ.out.2.2.1.fb 0)
              have kf1 := (hOx.frozen (p := ⟨P3, 1, none⟩) q3 n32).trans (HQ.out.2.2.1.fb 1)
              have kf2 := (hOx.frozen (p := ⟨P3, 2, none⟩) q3 n32).trans (HQ.out.2.2.1.fb 2)
              have Hput := Lib.hid (And.intro hput (And.intro hgm (And.intro hbad hfin)))
              clear hput hgm hbad hfin hOx n32 b0 b1 b2
              go_upto_region 22 with (fail)
              iterate 15 (first | go_values | go_skip | go_guarded | go_step | go_upon | go_back)
              go_step
              go_step
              go_step
              go_step
              go_step
              repeat (first | with_reducible apply inBlock_ret | with_reducible apply then_ret)
              change bodyPost _ _ _ Exit.ret _ _
              obtain ⟨⟨d0, d1, d2, d3, d4⟩, hOE⟩ := Hput.out.1
              unfold resW at d0 d1 d2 d3 d4 hOE
              refine bodyPost_ret (v := .tuple #[.agg #[.slice none 0 0, .slice none 0 0], .agg #[.int .i64 96, .int .i64 (i : Int), .int .i64 0]]) (by simp [results, Tryd.results5, go_sem, d0, d1, d2, d3, d4]; try rfl) rfl ?_
              rw [Hput.out.2.1]
              refine ⟨_, _, rfl, ?_, [], rfl, GmAt.nil _ _⟩
              exact HQ.out.2.1.trans (hOE.below HQ.out.2.1.size fun k e => by rcases e with e | e <;> (have := HPb.out.1; omega))
            · have hdw : decide ((4096 : Int) < wd) = false := decide_eq_false hw
              have hw' : ¬ wd > 4096 := hw
              by_cases hr : 64 < rg
              · have hdr : decide ((64 : Int) < rg) = true := decide_eq_true hr
                have hput := HQ.out.2.2.1.put (.slice none 0 0) (.slice none 0 0) (.int .i64 95) (.int .i64 (i : Int)) (.int .i64 0)
                have hbad : g.bad = 95 := by unfold GFun.bad; rw [HQw.out.1, HQw.out.2.1, HQw.out.2.2]; rw [if_neg hw]; exact if_pos hr
                have hfin : fin = (l.map GR.g, (95, (i : Int), 0)) := by
                  have h1 := Hf.out.2.2.2.2.2.1
                  rw [← HQ.out.2.2.2.2, hbad, if_pos (by decide)] at h1
                  exact h1
                have hgm : p.gmod = ([], [], (95, (i : Int), 0)) := by rw [Hg.out.2.2.2.2, hfin, if_pos (by show (95 : Int) ≠ 0; decide)]
                obtain ⟨u0, a0⟩ := HQ.out.2.2.1.a0
                obtain ⟨u1, a1⟩ := HQ.out.2.2.1.a1
                obtain ⟨v0, b0⟩ := HQ.out.2.2.1.b0
                obtain ⟨v1, b1⟩ := HQ.out.2.2.1.b1
                obtain ⟨v2, b2⟩ := HQ.out.2.2.1.b2
                have fa0 := HQ.out.2.2.1.fa 0
                have fa1 := HQ.out.2.2.1.fa 1
                have hOx : Oth (· = P2) w22 ((w22.setCell ⟨P2, 0, none⟩ (.slice none 0 0)).setCell ⟨P2, 1, none⟩ (.slice none 0 0)) := ((Oth.refl (· = P2) w22).set (p := ⟨P2, 0, none⟩) rfl _).set (p := ⟨P2, 1, none⟩) rfl _
                have q3 := HQ.out.2.2.1.lt.2
                have n32 : ¬ P3 = P2 := fun e => HQ.out.2.2.1.ne e.symm
                have k0 := (hOx.cell (p := ⟨P3, 0, none⟩) q3 n32).trans b0
                have k1 := (hOx.cell (p := ⟨P3, 1, none⟩) q3 n32).trans b1
                have k2 := (hOx.cell (p := ⟨P3, 2, none⟩) q3 n32).trans b2
                have kf0 := (hOx.frozen (p := ⟨P3, 0, none⟩) q3 n32).trans (HQ.out.2.2.1.fb 0)
                have kf1 := (hOx.frozen (p := ⟨P3, 1, none⟩) q3 n32).trans (HQ.out.2.2.1.fb 1)
                have kf2 := (hOx.frozen (p := ⟨P3, 2, none⟩) q3 n32).trans (HQ.out.2.2.1.fb 2)
                have Hput := Lib.hid (And.intro hput (And.intro hgm (And.intro hbad hfin)))
                clear hput hgm hbad hfin hOx n32 b0 b1 b2
                go_upto_region 24 with (fail)
                iterate 15 (first | go_values | go_skip | go_guarded | go_step | go_upon | go_back)
                go_step
                go_step
                go_step
                go_step
                go_step
                repeat (first | with_reducible apply inBlock_ret | with_reducible apply then_ret)
                change bodyPost _ _ _ Exit.ret _ _
                obtain ⟨⟨d0, d1, d2, d3, d4⟩, hOE⟩ := Hput.out.1
                unfold resW at d0 d1 d2 d3 d4 hOE
                refine bodyPost_ret (v := .tuple #[.agg #[.slice none 0 0, .slice none 0 0], .agg #[.int .i64 95, .int .i64 (i : Int), .int .i64 0]]) (by simp [results, Tryd.results5, go_sem, d0, d1, d2, d3, d4]; try rfl) rfl ?_
                rw [Hput.out.2.1]
                refine ⟨_, _, rfl, ?_, [], rfl, GmAt.nil _ _⟩
                exact HQ.out.2.1.trans (hOE.below HQ.out.2.1.size fun k e => by rcases e with e | e <;> (have := HPb.out.1; omega))
              · have hdr : decide ((64 : Int) < rg) = false := decide_eq_false hr
                by_cases hc : 1024 < cn
                · have hc2 : (1024 : Int) < (cn : Int) := by omega
                  have hdc : decide ((1024 : Int) < (cn : Int)) = true := decide_eq_true hc2
                  have hdc2 : decide (1024 < cn) = true := decide_eq_true hc
                  have hput := HQ.out.2.2.1.put (.slice none 0 0) (.slice none 0 0) (.int .i64 97) (.int .i64 (i : Int)) (.int .i64 0)
                  have hbad : g.bad = 97 := by unfold GFun.bad; rw [HQw.out.1, HQw.out.2.1, HQw.out.2.2]; rw [if_neg hw, if_neg hr]; exact if_pos hc
                  have hfin : fin = (l.map GR.g, (97, (i : Int), 0)) := by
                    have h1 := Hf.out.2.2.2.2.2.1
                    rw [← HQ.out.2.2.2.2, hbad, if_pos (by decide)] at h1
                    exact h1
                  have hgm : p.gmod = ([], [], (97, (i : Int), 0)) := by rw [Hg.out.2.2.2.2, hfin, if_pos (by show (97 : Int) ≠ 0; decide)]
                  obtain ⟨u0, a0⟩ := HQ.out.2.2.1.a0
                  obtain ⟨u1, a1⟩ := HQ.out.2.2.1.a1
                  obtain ⟨v0, b0⟩ := HQ.out.2.2.1.b0
                  obtain ⟨v1, b1⟩ := HQ.out.2.2.1.b1
                  obtain ⟨v2, b2⟩ := HQ.out.2.2.1.b2
                  have fa0 := HQ.out.2.2.1.fa 0
                  have fa1 := HQ.out.2.2.1.fa 1
                  have hOx : Oth (· = P2) w22 ((w22.setCell ⟨P2, 0, none⟩ (.slice none 0 0)).setCell ⟨P2, 1, none⟩ (.slice none 0 0)) := ((Oth.refl (· = P2) w22).set (p := ⟨P2, 0, none⟩) rfl _).set (p := ⟨P2, 1, none⟩) rfl _
                  have q3 := HQ.out.2.2.1.lt.2
                  have n32 : ¬ P3 = P2 := fun e => HQ.out.2.2.1.ne e.symm
                  have k0 := (hOx.cell (p := ⟨P3, 0, none⟩) q3 n32).trans b0
                  have k1 := (hOx.cell (p := ⟨P3, 1, none⟩) q3 n32).trans b1
                  have k2 := (hOx.cell (p := ⟨P3, 2, none⟩) q3 n32).trans b2
                  have kf0 := (hOx.frozen (p := ⟨P3, 0, none⟩) q3 n32).trans (HQ.out.2.2.1.fb 0)
                  have kf1 := (hOx.frozen (p := ⟨P3, 1, none⟩) q3 n32).trans (HQ.out.2.2.1.fb 1)
                  have kf2 := (hOx.frozen (p := ⟨P3, 2, none⟩) q3 n32).trans (HQ.out.2.2.1.fb 2)
                  have Hput := Lib.hid (And.intro hput (And.intro hgm (And.intro hbad hfin)))
                  clear hput hgm hbad hfin hOx n32 b0 b1 b2
                  go_upto_region 26 with (fail)
                  iterate 15 (first | go_values | go_skip | go_guarded | go_step | go_upon | go_back)
                  go_step
                  go_step
                  go_step
                  go_step
                  go_step
                  repeat (first | with_reducible apply inBlock_ret | with_reducible apply then_ret)
                  change bodyPost _ _ _ Exit.ret _ _
                  obtain ⟨⟨d0, d1, d2, d3, d4⟩, hOE⟩ := Hput.out.1
                  unfold resW at d0 d1 d2 d3 d4 hOE
                  refine bodyPost_ret (v := .tuple #[.agg #[.slice none 0 0, .slice none 0 0], .agg #[.int .i64 97, .int .i64 (i : Int), .int .i64 0]]) (by simp [results, Tryd.results5, go_sem, d0, d1, d2, d3, d4]; try rfl) rfl ?_
                  rw [Hput.out.2.1]
                  refine ⟨_, _, rfl, ?_, [], rfl, GmAt.nil _ _⟩
                  exact HQ.out.2.1.trans (hOE.below HQ.out.2.1.size fun k e => by rcases e with e | e <;> (have := HPb.out.1; omega))
                · have hc2 : ¬ (1024 : Int) < (cn : Int) := by omega
                  have hdc : decide ((1024 : Int) < (cn : Int)) = false := decide_eq_false hc2
                  have hdc2 : decide (1024 < cn) = false := decide_eq_false hc
                  have hbad : g.bad = 0 := by unfold GFun.bad; rw [HQw.out.1, HQw.out.2.1, HQw.out.2.2, if_neg hw, if_neg hr]; exact if_neg hc
                  have hfin : fin = restF p.funcs (i + 1) (l.map GR.g ++ [g]) (putF F f.name (i : Int)) := by
                    have h1 := Hf.out.2.2.2.2.2.1
                    rw [← HQ.out.2.2.2.2, hbad, if_neg (by decide)] at h1
                    exact h1
                  have Hbf := Lib.hid (And.intro hbad hfin)
                  clear hbad hfin
                  go_upto_region 27 with (fail)
                  obtain ⟨pa, pn, pc, hpv⟩ := row_shape HQ.out.2.2.2.1.2.1.own
                  refine wp_region_held (S := fun w => w.cell? ⟨M, 3, none⟩ = some (.int .i64 rg) ∧ w.cell? ⟨M, 4, none⟩ = some (.int .i64 wd) ∧ w.cell? ⟨M, 0, none⟩ = some (.slice ca cn cc)) rfl ?_
                  change wpAnyH _ _ _ _ _ _ _ _ w22.drew
                  obtain ⟨W0, hW0⟩ : ∃ W0, W0 = w22.drew := ⟨_, rfl⟩
                  rw [← hW0]
                  have hb0 : Below w22.heap.size w22 W0 := by rw [hW0]; exact (Below.refl _ _).drew
                  have Hb : Hid (W0.cell? ⟨M, 3, none⟩ = some (.int .i64 rg) ∧ W0.cell? ⟨M, 4, none⟩ = some (.int .i64 wd) ∧ W0.cell? ⟨M, 0, none⟩ = some (.slice ca cn cc)) := ⟨(hb0.cell (p := ⟨M, 3, none⟩) qM22).trans c3, (hb0.cell (p := ⟨M, 4, none⟩) qM22).trans c4, (hb0.cell (p := ⟨M, 0, none⟩) qM22).trans c0⟩
                  have hgb0 := HQ.out.2.2.2.1.2.1.oth (T := fun _ => False) (.of_below hb0) (fun j e => e.elim)
                  rw [hpv] at hgb0
                  have hnMG : ¬ M = G := by have := HG0.out.2.1; omega
                  have hnZG : ¬ Z = G := by have := HG0.out.2.1; omega
                  have qMW : M < W0.heap.size := Nat.lt_of_lt_of_le qM22 hb0.size
                  have qZ22 : Z < w22.heap.size := block_lt_of_cell z02
                  have HX := Lib.hid (And.intro hgb0 (And.intro (hgb0.fill (.int .i64 rg) (.int .i64 wd) (.slice ca cn cc)) (And.intro hb0 (And.intro hpv (And.intro ((hb0.cell (p := ⟨Z, 0, none⟩) qZ22).trans z02) (Nat.lt_of_lt_of_le qZ22 hb0.size))))))
                  clear hb0 hW0 hgb0 hpv c0 c3 c4 qM22 z02 qZ22
                  refine wpAnyH_take (i := 0) (by simp only [List.getElem?_toArray, List.getElem?_cons_zero]; rfl) (by kernel_rfl) (by kernel_rfl) (by kernel_rfl) (by intro _ _ _ h; exact h) (Or.inl ⟨by rfl, fun w hw => by (obtain ⟨k0, k1, k2⟩ := hw; go_simp; try rfl)⟩) Hb.out ?_
                  refine wpAnyH_take (i := 1) (by simp only [List.getElem?_toArray, List.getElem?_cons_succ, List.getElem?_cons_zero]; rfl) (by kernel_rfl) (by kernel_rfl) (by kernel_rfl) (by intro _ _ _ h; exact h) (Or.inl ⟨by rfl, fun w hw => by (obtain ⟨k0, k1, k2⟩ := hw; go_simp; try rfl)⟩) Hb.out ?_
                  go_frame
                  refine wpAnyH_take (i := 2) (by simp only [List.getElem?_toArray, List.getElem?_cons_succ, List.getElem?_cons_zero]; rfl) (by kernel_rfl) (by kernel_rfl) (by kernel_rfl) (by intro _ _ _ h; exact h) (Or.inl ⟨by rfl, fun w hw => by (obtain ⟨k0, k1, k2⟩ := hw; go_simp; try rfl)⟩) Hb.out ?_
                  refine wpAnyH_take (i := 3) (by simp only [List.getElem?_toArray, List.getElem?_cons_succ, List.getElem?_cons_zero]; rfl) (by kernel_rfl) (by kernel_rfl) (by kernel_rfl) (by intro _ _ _ h; exact h) (Or.inl ⟨by rfl, fun w hw => by (obtain ⟨k0, k1, k2⟩ := hw; go_simp; try rfl)⟩) Hb.out ?_
                  go_frame
                  refine wpAnyH_take (i := 4) (by simp only [List.getElem?_toArray, List.getElem?_cons_succ, List.getElem?_cons_zero]; rfl) (by kernel_rfl) (by kernel_rfl) (by kernel_rfl) (by intro _ _ _ h; exact h) (Or.inl ⟨by rfl, fun w hw => by (obtain ⟨k0, k1, k2⟩ := hw; go_simp; try rfl)⟩) Hb.out ?_
                  refine wpAnyH_take (i := 5) (by simp only [List.getElem?_toArray, List.getElem?_cons_succ, List.getElem?_cons_zero]; rfl) (by kernel_rfl) (by kernel_rfl) (by kernel_rfl) (by intro _ _ _ h; exact h) (Or.inl ⟨by rfl, fun w hw => by (obtain ⟨k0, k1, k2⟩ := hw; go_simp; try rfl)⟩) Hb.out ?_
                  go_frame
                  refine wpAnyH_take (i := 6) (by simp only [List.getElem?_toArray, List.getElem?_cons_succ, List.getElem?_cons_zero]; rfl) (by kernel_rfl) (by kernel_rfl) (by kernel_rfl) (by intro _ _ _ h; exact h) (Or.inl ⟨by rfl, fun w hw => by (obtain ⟨k0, k1, k2⟩ := hw; go_simp; try rfl)⟩) Hb.out ?_
                  refine wpAnyH_take (i := 7) (by simp only [List.getElem?_toArray, List.getElem?_cons_succ, List.getElem?_cons_zero]; rfl) (by kernel_rfl) (by kernel_rfl) (by kernel_rfl) (by intro _ _ _ h; exact h) (Or.inl ⟨by rfl, fun w hw => by (obtain ⟨k0, k1, k2⟩ := hw; go_simp; try rfl)⟩) Hb.out ?_
                  go_frame
                  refine wpAnyH_take (i := 8) (by simp only [List.getElem?_toArray, List.getElem?_cons_succ, List.getElem?_cons_zero]; rfl) (by kernel_rfl) (by kernel_rfl) (by kernel_rfl) (by intro _ _ _ h; exact h) (Or.inl ⟨by rfl, fun w hw => by (obtain ⟨k0, k1, k2⟩ := hw; go_simp; try rfl)⟩) Hb.out ?_
                  refine wpAnyH_take (i := 9) (by simp only [List.getElem?_toArray, List.getElem?_cons_succ, List.getElem?_cons_zero]; rfl) (by kernel_rfl) (by kernel_rfl) (by kernel_rfl) (by intro _ _ _ h; exact h) (Or.inl ⟨by rfl, fun w hw => by (obtain ⟨k0, k1, k2⟩ := hw; go_simp; try rfl)⟩) Hb.out ?_
                  go_frame
                  refine wpAnyH_take (i := 10) (by simp only [List.getElem?_toArray, List.getElem?_cons_succ, List.getElem?_cons_zero]; rfl) (by kernel_rfl) (by kernel_rfl) (by kernel_rfl) (by intro _ _ _ h; exact h) (Or.inl ⟨by rfl, fun w hw => by (obtain ⟨k0, k1, k2⟩ := hw; go_simp; try rfl)⟩) Hb.out ?_
                  refine wpAnyH_take (i := 11) (by simp only [List.getElem?_toArray, List.getElem?_cons_succ, List.getElem?_cons_zero]; rfl) (by kernel_rfl) (by kernel_rfl) (by kernel_rfl) (by intro _ _ _ h; exact h) (Or.inl ⟨by rfl, fun w hw => by (obtain ⟨k0, k1, k2⟩ := hw; go_simp; try rfl)⟩) Hb.out ?_
                  go_frame
                  refine wpAnyH_take (i := 12) (by simp only [List.getElem?_toArray, List.getElem?_cons_succ, List.getElem?_cons_zero]; rfl) (by kernel_rfl) (by kernel_rfl) (by kernel_rfl) (by intro _ _ _ h; exact h) (Or.inl ⟨by rfl, fun w hw => by (obtain ⟨k0, k1, k2⟩ := hw; go_simp; try rfl)⟩) Hb.out ?_
                  go_frame
                  refine wpAnyH_ready (rs := [13]) (by kernel_rfl) (by simp) ?_
                  refine AllReadyH.cons rfl (fun K hK => ?_) AllReadyH.nil
                  have g2 := HX.out.1.c2
                  have gf2 := HX.out.1.fr 2
                  go_simp
                  obtain ⟨Wa, hWa⟩ : ∃ w : World, w = W0.setCell ⟨G, 2, none⟩ (.int .i64 rg) := ⟨_, rfl⟩
                  have Ha : Hid ((Wa.cell? ⟨G, 3, none⟩ = some (.int .i64 0) ∧ Wa.frozen? ⟨G, 3, none⟩ = false) ∧ Oth (· = G) W0 Wa) := by rw [hWa]; exact ⟨HX.out.2.1.1.1, HX.out.2.1.2.1.1⟩
                  rw [← hWa]
                  have HWa := Lib.hid hWa
                  clear hWa
                  refine hK.out _ _ ⟨(Ha.out.2.cell (p := ⟨M, 3, none⟩) qMW hnMG).trans Hb.out.1, (Ha.out.2.cell (p := ⟨M, 4, none⟩) qMW hnMG).trans Hb.out.2.1, (Ha.out.2.cell (p := ⟨M, 0, none⟩) qMW hnMG).trans Hb.out.2.2⟩ (fun _ => ?_)
                  clear hK K g2 gf2
                  try go_frame
                  have Hba : Hid (Wa.cell? ⟨M, 3, none⟩ = some (.int .i64 rg) ∧ Wa.cell? ⟨M, 4, none⟩ = some (.int .i64 wd) ∧ Wa.cell? ⟨M, 0, none⟩ = some (.slice ca cn cc)) := ⟨(Ha.out.2.cell (p := ⟨M, 3, none⟩) qMW hnMG).trans Hb.out.1, (Ha.out.2.cell (p := ⟨M, 4, none⟩) qMW hnMG).trans Hb.out.2.1, (Ha.out.2.cell (p := ⟨M, 0, none⟩) qMW hnMG).trans Hb.out.2.2⟩
                  refine wpAnyH_take (i := 14) (by simp only [List.getElem?_toArray, List.getElem?_cons_succ, List.getElem?_cons_zero]; rfl) (by kernel_rfl) (by kernel_rfl) (by kernel_rfl) (by intro _ _ _ h; exact h) (Or.inl ⟨by rfl, fun w hw => by (obtain ⟨k0, k1, k2⟩ := hw; go_simp; try rfl)⟩) Hba.out ?_
                  go_frame
                  refine wpAnyH_ready (rs := [15]) (by kernel_rfl) (by simp) ?_
                  refine AllReadyH.cons rfl (fun K hK => ?_) AllReadyH.nil
                  have g3 := Ha.out.1.1
                  have gf3 := Ha.out.1.2
                  go_simp
                  obtain ⟨Wb, hWb⟩ : ∃ w : World, w = Wa.setCell ⟨G, 3, none⟩ (.int .i64 wd) := ⟨_, rfl⟩
                  have Hbb : Hid ((Wb.cell? ⟨G, 4, none⟩ = some (.slice none 0 0) ∧ Wb.frozen? ⟨G, 4, none⟩ = false) ∧ Oth (· = G) W0 Wb) := by rw [hWb, HWa.out]; exact ⟨HX.out.2.1.1.2, HX.out.2.1.2.1.2.1⟩
                  have Hbs : Hid (Wb.cell? ⟨M, 3, none⟩ = some (.int .i64 rg) ∧ Wb.cell? ⟨M, 4, none⟩ = some (.int .i64 wd) ∧ Wb.cell? ⟨M, 0, none⟩ = some (.slice ca cn cc)) := ⟨(Hbb.out.2.cell (p := ⟨M, 3, none⟩) qMW hnMG).trans Hb.out.1, (Hbb.out.2.cell (p := ⟨M, 4, none⟩) qMW hnMG).trans Hb.out.2.1, (Hbb.out.2.cell (p := ⟨M, 0, none⟩) qMW hnMG).trans Hb.out.2.2⟩
                  rw [← hWb]
                  have HWb := Lib.hid hWb
                  clear hWb
                  refine hK.out _ _ Hbs.out (fun _ => ?_)
                  clear hK K g3 gf3
                  try go_frame
                  refine wpAnyH_take (i := 16) (by simp only [List.getElem?_toArray, List.getElem?_cons_succ, List.getElem?_cons_zero]; rfl) (by kernel_rfl) (by kernel_rfl) (by kernel_rfl) (by intro _ _ _ h; exact h) (Or.inl ⟨by rfl, fun w hw => by (obtain ⟨k0, k1, k2⟩ := hw; go_simp; try rfl)⟩) Hbs.out ?_
                  go_frame
                  refine wpAnyH_ready (rs := [17]) (by kernel_rfl) (by simp) ?_
                  refine AllReadyH.cons rfl (fun K hK => ?_) AllReadyH.nil
                  have g4 := Hbb.out.1.1
                  have gf4 := Hbb.out.1.2
                  go_simp
                  obtain ⟨WC, hWC⟩ : ∃ w : World, w = Wb.setCell ⟨G, 4, none⟩ (.slice ca cn cc) := ⟨_, rfl⟩
                  have HC : Hid (Oth (· = G) W0 WC ∧ ∀ j u, ([.string f.name, .slice pa pn pc, .int .i64 rg, .int .i64 wd, .slice ca cn cc] : List Value)[j]? = some u → WC.cell? ⟨G, j, none⟩ = some u) := by rw [hWC, HWb.out, HWa.out]; exact ⟨HX.out.2.1.2.1.2.2, HX.out.2.1.2.2⟩
                  rw [← hWC]
                  refine hK.out _ _ ⟨(HC.out.1.cell (p := ⟨M, 3, none⟩) qMW hnMG).trans Hb.out.1, (HC.out.1.cell (p := ⟨M, 4, none⟩) qMW hnMG).trans Hb.out.2.1, (HC.out.1.cell (p := ⟨M, 0, none⟩) qMW hnMG).trans Hb.out.2.2⟩ (fun _ => ?_)
                  clear hK K g4 gf4 hWC
                  try go_frame
                  refine wpAnyH_done (by kernel_rfl) ?_ _
                  have hbC : Below Wr.heap.size Wr WC := (HQ.out.2.2.2.1.1.trans (HX.out.2.2.1.mono HQ.out.2.2.2.1.1.size)).trans (HC.out.1.below (Nat.le_trans HQ.out.2.2.2.1.1.size HX.out.2.2.1.size) fun k e => by have := HG0.out.2.1; omega)
                  have e0 := HC.out.2 0 _ rfl
                  have e1 := HC.out.2 1 _ rfl
                  have e2 := HC.out.2 2 _ rfl
                  have e3 := HC.out.2 3 _ rfl
                  have e4 := HC.out.2 4 _ rfl
                  have hMdC := Hr.out.1.keep hbC
                  have o1 := hMdC.o1
                  have zC : WC.cell? ⟨Z, 0, none⟩ = some (.string f.name) := (HC.out.1.cell (p := ⟨Z, 0, none⟩) HX.out.2.2.2.2.2 hnZG).trans HX.out.2.2.2.2.1
                  have hrowC := hMdC.mod.row
                  have hl9 : l.length ≤ 1000000000 := by have := Hf.out.2.2.2.2.2.2; omega
                  have hC5 : C5 ≤ WC.heap.size := by have h1 := H8.out.2.2.2.2.2.2.2.2; have h2 := Hr.out.2.1.size; have h3 := hbC.size; omega
                  obtain ⟨va, vn, vc, hvm⟩ := row_shape hrowC
                  have HBC := Lib.hid (And.intro hbC (And.intro zC hvm))
                  rw [hvm] at o1
                  have hbX : Below Wr.heap.size Wr (WC.alloc (.cells #[.string f.name, .slice pa pn pc, .int .i64 rg, .int .i64 wd, .slice ca cn cc] 44)) := hbC.alloc hbC.size _
                  obtain ⟨x, hx⟩ : ∃ x : GR, x = ⟨g, .slice pa pn pc, .slice ca cn cc, Wr.heap.size, WC.heap.size⟩ := ⟨_, rfl⟩
                  have hxc : x.cells = [.string f.name, .slice pa pn pc, .int .i64 rg, .int .i64 wd, .slice ca cn cc] := by
                    rw [hx]
                    simp only [GR.cells]
                    rw [HQw.out.1, HQw.out.2.1, HQ.out.2.2.2.2]
                    rfl
                  have hxin : x.In (WC.alloc (.cells #[.string f.name, .slice pa pn pc, .int .i64 rg, .int .i64 wd, .slice ca cn cc] 44)) := by
                    have hq := HQ.out
                    have hGs := hq.2.2.2.1.2.2.1
                    have hTG := hq.2.2.2.1.2.2.2.2.2.1
                    have hcvo := hq.2.2.2.1.2.2.2.2.1
                    have hco := hq.1.code
                    have hK0 := HG0.out.2.1
                    have qwr : Wr.heap.size ≤ wr.heap.size := hB2'.out.size
                    have qG : G < wr.heap.size := by have h1 := HG0.out.2.2.1; have h2 := HG0.out.2.2.2.1; omega
                    have nG3 : ¬ m3.T G := (hGs.block qG (fun e => by have := (hTG G e).1; omega)).2
                    have bE : Below WC.heap.size WC (WC.alloc (.cells #[.string f.name, .slice pa pn pc, .int .i64 rg, .int .i64 wd, .slice ca cn cc] 44)) := (Below.refl _ _).alloc (Nat.le_refl _) _
                    have keep : ∀ k, k < w22.heap.size → k ≠ G → (WC.alloc (.cells #[.string f.name, .slice pa pn pc, .int .i64 rg, .int .i64 wd, .slice ca cn cc] 44)).heap[k]? = w22.heap[k]? := fun k hk hkG => by
                      have h1 : k < W0.heap.size := Nat.lt_of_lt_of_le hk HX.out.2.2.1.size
                      exact (bE.block k (Nat.lt_of_lt_of_le h1 HC.out.1.size)).trans ((HC.out.1.block k h1 hkG).trans (HX.out.2.2.1.block k hk))
                    have hcT : ∀ k, m3.cv.ownBlock = some k → k ≠ G ∧ Wr.heap.size ≤ k ∧ k < w22.heap.size := fun k e => by
                      have h1 := (World.ownsRow.lt hco k e).2
                      have hT : m3.T k := .inr (.inr (.inl e))
                      refine ⟨fun e2 => nG3 (e2 ▸ hT), ?_, h1⟩
                      by_cases hk : k < wr.heap.size
                      · exact (hTG k (hGs.new k hk hT)).2
                      · omega
                    have hpo := hq.2.2.2.1.2.1.own
                    rw [HX.out.2.2.2.1] at hpo
                    have hpT : ∀ k, (Value.slice pa pn pc).ownBlock = some k → k ≠ G ∧ k < w22.heap.size := fun k e => by
                      have h1 := HX.out.1.ne k e
                      exact ⟨by omega, (World.ownsRow.lt hpo k e).2⟩
                    have hszC : w22.heap.size ≤ WC.heap.size := Nat.le_trans HX.out.2.2.1.size HC.out.1.size
                    rw [hx]
                    refine ⟨?_, ?_, fun k e => ?_, fun k e => ?_, fun k e e2 => ?_⟩
                    · have h1 := owns_at_block hpo fun k e => keep k (hpT k e).2 (hpT k e).1
                      have h2 : g.params = f.params.map fun x => (x.lo, x.hi) := by rw [HQ.out.2.2.2.2]; rfl
                      rw [h2, ← HB0.out]
                      exact h1
                    · have h1 := owns_at_block hco fun k e => keep k (hcT k e).2.2 (hcT k e).1
                      have h2 := owns_base h1 fun k e => (hcT k e).2.1
                      rw [hcvo] at h2
                      have h3 : g.code = s3.code := by rw [HQ.out.2.2.2.2]; exact hq.2.2.2.1.2.2.2.2.2.2.symm
                      show OwnIns _ Wr.heap.size (.slice ca cn cc) g.code
                      rw [h3]
                      exact h2
                    · exact Nat.lt_of_lt_of_le (hpT k e).2 hszC
                    · rw [← hcvo] at e; exact Nat.lt_of_lt_of_le (hcT k e).2.2 hszC
                    · rw [← hcvo] at e2
                      have h1 := HX.out.1.ne k e
                      have hk : k < wr.heap.size := by
                        have h2 := (World.ownsRow.lt HG0.out.1.own k (by rw [HX.out.2.2.2.1]; exact e)).2
                        exact h2
                      exact (hGs.block hk (fun e3 => by have := (hTG k e3).1; omega)).2 (.inr (.inr (.inl e2)))
                  have hxlo : Wr.heap.size ≤ x.lo := by rw [hx]; exact Nat.le_refl _
                  have hxhi : x.hi ≤ (WC.alloc (.cells #[.string f.name, .slice pa pn pc, .int .i64 rg, .int .i64 wd, .slice ca cn cc] 44)).heap.size := by rw [hx]; simp
                  have hC5r : C5 ≤ Wr.heap.size := by have h1 := H8.out.2.2.2.2.2.2.2.2; have h2 := Hr.out.2.1.size; omega
                  have Hx := Lib.hid (And.intro hx (And.intro hxc (And.intro hxin (And.intro hxlo (And.intro hxhi (And.intro hC5r hbX))))))
                  rw [hvm] at hrowC
                  have hmore := fun (v5 : Value) (w5 : World) (h5 : w5.ownsRow C5 44 5 v5 (l.length + 1) (l.flatMap GR.cells ++ [.string f.name, .slice pa pn pc, .int .i64 rg, .int .i64 wd, .slice ca cn cc])) (hg5 : (WC.alloc (.cells #[.string f.name, .slice pa pn pc, .int .i64 rg, .int .i64 wd, .slice ca cn cc] 44)).grownBy w5 (Value.slice va vn vc).ownBlock) (hfr5 : Fresh (WC.alloc (.cells #[.string f.name, .slice pa pn pc, .int .i64 rg, .int .i64 wd, .slice ca cn cc] 44)) (.slice va vn vc) v5) => Hr.out.1.more Hx.out.2.2.2.2.2.2 Hx.out.2.2.1 Hx.out.2.2.2.1 Hx.out.2.2.2.2.1 Hx.out.2.2.2.2.2.1 (by rw [Hx.out.2.1]; exact h5) (by rw [HBC.out.2.2]; exact hg5) (by rw [HBC.out.2.2]; exact hfr5)
                  have Hmore := Lib.hid hmore
                  have Hrow := Lib.hid hrowC
                  have hZO : ¬ Z = O := by have h1 := HG0.out.2.1; have h2 := Hr.out.1.ne; have h3 := Hr.out.1.big; omega
                  clear hmore hrowC hx hxc hxin hxlo hxhi hC5r hbX hbC hMdC hvm
                  go_upto_region 29 with (at_builtin; refine append_fun_at rfl _ _ rfl C5 (.slice va vn vc) l.length (l.flatMap GR.cells) rfl Hrow.out (.string f.name) (.slice pa pn pc) (.int .i64 rg) (.int .i64 wd) (.slice ca cn cc) (fun u hu => by simp at hu; rcases hu with rfl | rfl | rfl | rfl | rfl <;> rfl) rfl hl9 hC5 ?_; intro v5 w5 hown5 hg5 hfr5 hO5; obtain ⟨a5, n5, c5, rfl⟩ := row_shape hown5; have HM5 := Lib.hid (And.intro (Hmore.out _ w5 hown5 hg5 hfr5) ((hO5.cell (p := ⟨Z, 0, none⟩) (block_lt_of_cell zC) (fun e => by have h1 := (World.ownsRow.lt Hr.out.1.mod.row Z (by rw [HBC.out.2.2]; exact e)).2; have h2 := HG0.out.2.1; omega)).trans zC)); clear hown5 hg5 hfr5 hO5; have p1 := HM5.out.1.1.1; have p2 := HM5.out.1.1.2; rw [HBC.out.2.2] at p1)
                  obtain ⟨w6, hw6⟩ : ∃ w, w = w5.setCell ⟨O, 1, none⟩ (.slice a5 n5 c5) := ⟨_, rfl⟩
                  rw [← hw6]
                  have H6 : Hid (MdAt w6 C5 O fm B8 (.slice ta tn tc) (.slice a5 n5 c5) p.widen (l ++ [x]) F i ∧ Oth (fun k => k = O ∨ vm.ownBlock = some k) Wr w6) := by rw [hw6]; exact HM5.out.1.2
                  have z6 : w6.cell? ⟨Z, 0, none⟩ = some (.string f.name) := by
                    rw [hw6, World.cell?_setCell_other _ _ _ _ (by intro e; injection e with e1 _; exact hZO e1.symm)]
                    exact HM5.out.2
                  obtain ⟨SF, hSF, hSFn⟩ := H6.out.1.map
                  have hSl : SF.length ≤ 1000000 := by omega
                  clear hw6 p1 p2 e0 e1 e2 e3 e4 o1 zC
                  go_upto_region 30 with (at_mapUpdate; refine sm_put (t := 60) Tryd.underlying60 rfl _ _ _ rfl fm SF F rfl hSF f.name rfl (i : Int) rfl hfnm hSl ?_; intro w7 hm7 hg7; have H7 := Lib.hid (And.intro hm7 (Oth.of_grown hg7)); clear hm7 hg7)
                  go_wp2_with fail
                  go_roundg (n - (i + 1))
                  case measure => have := Hr.out.2.2.2; omega
                  case rel =>
                    refine ⟨i + 1, putF F f.name (i : Int), l ++ [x], .slice a5 n5 c5, rfl, by go_num, hin, H6.out.1.putF H7.out.2 H7.out.1 (by have := insS_len SF f.name; omega), (Hr.out.2.1.more H6.out.2 fun k e => ?_).more H7.out.2 fun k e => .inl (.inr e), ?_, by have := Hf.out.2.2.2.2.2.2; simp; omega⟩
                    · rcases e with e | e
                      · exact .inl (.inl e)
                      · have h1 := Hr.out.1.vlow k e; have h2 := H8.out.2.2.2.2.1; exact .inr (by omega)
                    · rw [List.map_append, Hbf.out.2, show List.map GR.g [x] = [g] by rw [Hx.out.1]; rfl]
      · obtain rfl : n = i := by omega
        have hfe : fin = (l.map GR.g, (0, 0, 0)) := by
          have h1 := restF_end (l := p.funcs) (l.map GR.g) F
          rw [← Hl.out.2, hrest] at h1
          exact h1
        have hgm : p.gmod = (p.widen, l.map GR.g, (0, 0, 0)) := by rw [Hg.out.2.2.2.2, hfe, if_neg (by show ¬ (0 : Int) ≠ 0; decide)]
        have hR : ResAt Wr P2 P3 := H8.out.2.2.1.oth hO (by have h1 := H8.out.2.2.2.1; have h2 := hMd.ne; rintro (e | e) <;> omega) (by have h1 := H8.out.2.2.2.1; have h2 := hMd.ne; rintro (e | e) <;> omega)
        have o0 := hMd.o0
        have o1 := hMd.o1
        obtain ⟨va, vn, vc, hvm⟩ := row_shape hMd.mod.row
        rw [hvm] at o1
        have hOP : ¬ O = P2 ∧ ¬ (O = P2 ∨ O = P3) := by have h1 := H8.out.2.2.2.1; omega
        have HE := Lib.hid (And.intro hMd (And.intro hBr (And.intro hR (And.intro hgm (And.intro hvm hOP)))))
        obtain ⟨u0, a0⟩ := hR.a0
        obtain ⟨u1, a1⟩ := hR.a1
        obtain ⟨v0, b0⟩ := hR.b0
        obtain ⟨v1, b1⟩ := hR.b1
        obtain ⟨v2, b2⟩ := hR.b2
        have fa0 := hR.fa 0
        have fa1 := hR.fa 1
        have hOx : Oth (· = P2) Wr ((Wr.setCell ⟨P2, 0, none⟩ (.slice ta tn tc)).setCell ⟨P2, 1, none⟩ (.slice va vn vc)) := ((Oth.refl (· = P2) Wr).set (p := ⟨P2, 0, none⟩) rfl _).set (p := ⟨P2, 1, none⟩) rfl _
        have q3 := hR.lt.2
        have n32 : ¬ P3 = P2 := fun e => hR.ne e.symm
        have k0 := (hOx.cell (p := ⟨P3, 0, none⟩) q3 n32).trans b0
        have k1 := (hOx.cell (p := ⟨P3, 1, none⟩) q3 n32).trans b1
        have k2 := (hOx.cell (p := ⟨P3, 2, none⟩) q3 n32).trans b2
        have kf0 := (hOx.frozen (p := ⟨P3, 0, none⟩) q3 n32).trans (hR.fb 0)
        have kf1 := (hOx.frozen (p := ⟨P3, 1, none⟩) q3 n32).trans (hR.fb 1)
        have kf2 := (hOx.frozen (p := ⟨P3, 2, none⟩) q3 n32).trans (hR.fb 2)
        have Hput := Lib.hid (hR.put (.slice ta tn tc) (.slice va vn vc) (.int .i64 0) (.int .i64 0) (.int .i64 0))
        clear hg hrest hll hMd hO hBr hfe hgm hR hvm hi hin hOP hOx n32 b0 b1 b2
        go_upto_region 31 with (fail)
        iterate 12 (first | go_values | go_skip | go_guarded | go_step | go_upon | go_back)
        repeat (first | with_reducible apply inBlock_ret | with_reducible apply then_ret | go_step)
        obtain ⟨⟨d0, d1, d2, d3, d4⟩, hOE⟩ := Hput.out
        unfold resW at d0 d1 d2 d3 d4 hOE
        change bodyPost _ _ _ Exit.ret _ _
        refine bodyPost_ret (v := .tuple #[.agg #[.slice ta tn tc, .slice va vn vc], .agg #[.int .i64 0, .int .i64 0, .int .i64 0]]) (by simp [results, Tryd.results5, go_sem, d0, d1, d2, d3, d4]; try rfl) rfl ?_
        rw [HE.out.2.2.2.1]
        refine ⟨_, _, rfl, HE.out.2.1.trans (hOE.below HE.out.2.1.size fun k e => by rcases e with e | e <;> (have := HPb.out.1; omega)), l, rfl, ?_⟩
        have h1 := HE.out.1.mod
        rw [HE.out.2.2.2.2.1] at h1
        exact (h1.oth hOE fun k e => by have h2 := H8.out.2.2.2.2.2; rcases e with e | e <;> omega).mono (by have h2 := H8.out.2.2.2.2.2; omega)
  · have hb1 : (rf.1 != 0) = true := by simp [he]
    have Hgm : Hid (p.gmod = ([], [], rf)) := by
      show _ = _
      unfold Pg.gmod
      rw [← Hrf.out, if_pos he]
    clear he
    go_upto_region 3 with (fail)
    refine wp_region_held (S := fun w => w.cell? ⟨P4, 0, none⟩ = some (.int .i64 rf.1) ∧ w.cell? ⟨P4, 1, none⟩ = some (.int .i64 rf.2.1) ∧ w.cell? ⟨P4, 2, none⟩ = some (.int .i64 rf.2.2)) rfl ?_
    change wpAnyH _ _ _ _ _ _ _ _ W5.drew
    obtain ⟨W0, hW0⟩ : ∃ W0, W0 = W5.drew := ⟨_, rfl⟩
    rw [← hW0]
    have hb0 : Below W5.heap.size W5 W0 := by rw [hW0]; exact (Below.refl _ _).drew
    have q4 := block_lt_of_cell y0
    have Hb : Hid (W0.cell? ⟨P4, 0, none⟩ = some (.int .i64 rf.1) ∧ W0.cell? ⟨P4, 1, none⟩ = some (.int .i64 rf.2.1) ∧ W0.cell? ⟨P4, 2, none⟩ = some (.int .i64 rf.2.2)) := ⟨(hb0.cell (p := ⟨P4, 0, none⟩) q4).trans y0, (hb0.cell (p := ⟨P4, 1, none⟩) q4).trans y1, (hb0.cell (p := ⟨P4, 2, none⟩) q4).trans y2⟩
    have HR0 := Lib.hid (And.intro (HR5.out.later hb0) hb0)
    clear hb0 hW0 y0 y1 y2 q4
    refine wpAnyH_take (i := 0) (by simp only [List.getElem?_toArray, List.getElem?_cons_zero]; rfl) (by kernel_rfl) (by kernel_rfl) (by kernel_rfl) (by intro _ _ _ h; exact h) (Or.inl ⟨by rfl, fun w hw => by (obtain ⟨k0, k1, k2⟩ := hw; go_simp; try rfl)⟩) Hb.out ?_
    refine wpAnyH_take (i := 1) (by simp only [List.getElem?_toArray, List.getElem?_cons_succ, List.getElem?_cons_zero]; rfl) (by kernel_rfl) (by kernel_rfl) (by kernel_rfl) (by intro _ _ _ h; exact h) (Or.inl ⟨by rfl, fun w hw => by (obtain ⟨k0, k1, k2⟩ := hw; go_simp; try rfl)⟩) Hb.out ?_
    go_frame
    refine wpAnyH_ready (rs := [2]) (by kernel_rfl) (by simp) ?_
    refine AllReadyH.cons rfl (fun K hK => ?_) AllReadyH.nil
    obtain ⟨u0, a0⟩ := HR0.out.1.a0
    obtain ⟨u1, a1⟩ := HR0.out.1.a1
    have fa0 := HR0.out.1.fa 0
    have fa1 := HR0.out.1.fa 1
    go_simp
    have hOx : Oth (· = P2) W0 ((W0.setCell ⟨P2, 0, none⟩ (.slice none 0 0)).setCell ⟨P2, 1, none⟩ (.slice none 0 0)) := ((Oth.refl (· = P2) W0).set (p := ⟨P2, 0, none⟩) rfl _).set (p := ⟨P2, 1, none⟩) rfl _
    have q40 : P4 < W0.heap.size := block_lt_of_cell Hb.out.1
    have hn42 : P4 ≠ P2 ∧ P4 ≠ P3 := ⟨HW5.out.2.2.2.1, HW5.out.2.2.2.2.1⟩
    refine hK.out _ _ ⟨(hOx.cell (p := ⟨P4, 0, none⟩) q40 hn42.1).trans Hb.out.1, (hOx.cell (p := ⟨P4, 1, none⟩) q40 hn42.1).trans Hb.out.2.1, (hOx.cell (p := ⟨P4, 2, none⟩) q40 hn42.1).trans Hb.out.2.2⟩ (fun _ => ?_)
    clear hK K
    try go_frame
    refine wpAnyH_ready (rs := [3]) (by kernel_rfl) (by simp) ?_
    refine AllReadyH.cons rfl (fun K hK => ?_) AllReadyH.nil
    obtain ⟨v0, b0⟩ := HR0.out.1.b0
    obtain ⟨v1, b1⟩ := HR0.out.1.b1
    obtain ⟨v2, b2⟩ := HR0.out.1.b2
    have q3 := HR0.out.1.lt.2
    have n32 : ¬ P3 = P2 := fun e => HR0.out.1.ne e.symm
    have c0 := (hOx.cell (p := ⟨P3, 0, none⟩) q3 n32).trans b0
    have c1 := (hOx.cell (p := ⟨P3, 1, none⟩) q3 n32).trans b1
    have c2 := (hOx.cell (p := ⟨P3, 2, none⟩) q3 n32).trans b2
    have g0 := (hOx.frozen (p := ⟨P3, 0, none⟩) q3 n32).trans (HR0.out.1.fb 0)
    have g1 := (hOx.frozen (p := ⟨P3, 1, none⟩) q3 n32).trans (HR0.out.1.fb 1)
    have g2 := (hOx.frozen (p := ⟨P3, 2, none⟩) q3 n32).trans (HR0.out.1.fb 2)
    have hput := HR0.out.1.put (.slice none 0 0) (.slice none 0 0) (.int .i64 rf.1) (.int .i64 rf.2.1) (.int .i64 rf.2.2)
    have Hput := Lib.hid hput
    clear hput a0 a1 fa0 fa1 b0 b1 b2
    go_simp
    obtain ⟨WE, hWE⟩ : ∃ WE, WE = resW W0 P2 P3 (.slice none 0 0) (.slice none 0 0) (.int .i64 rf.1) (.int .i64 rf.2.1) (.int .i64 rf.2.2) := ⟨_, rfl⟩
    rw [← hWE] at Hput
    unfold resW at hWE
    rw [← hWE]
    have e4 : ∀ j, WE.cell? ⟨P4, j, none⟩ = W0.cell? ⟨P4, j, none⟩ := fun j => Hput.out.2.cell (p := ⟨P4, j, none⟩) q40 (by rintro (e | e); exact hn42.1 e; exact hn42.2 e)
    refine hK.out _ WE ⟨(e4 0).trans Hb.out.1, (e4 1).trans Hb.out.2.1, (e4 2).trans Hb.out.2.2⟩ (fun _ => ?_)
    clear hK K
    try go_frame
    refine wpAnyH_done (by kernel_rfl) ?_ _
    obtain ⟨d0, d1, d2, d3, d4⟩ := Hput.out.1
    go_wp2_with fail
    refine bodyPost_ret (v := .tuple #[.agg #[.slice none 0 0, .slice none 0 0], .agg #[.int .i64 rf.1, .int .i64 rf.2.1, .int .i64 rf.2.2]]) (by simp [results, Tryd.results5, go_sem, d0, d1, d2, d3, d4]; try rfl) rfl ?_
    rw [Hgm.out]
    refine ⟨_, _, rfl, ?_, [], rfl, GmAt.nil _ _⟩
    have h1 : Below W.heap.size W W0 := HPb.out.2.2.trans ((HW5.out.2.2.1.mono HPb.out.2.2.size).trans (HR0.out.2.mono (Nat.le_trans HPb.out.2.2.size HW5.out.2.2.1.size)))
    exact h1.trans (Hput.out.2.below h1.size fun k e => by rcases e with e | e <;> (have := HPb.out.1; omega))
end Go.Proofs.YtgobcldecokppaaDoor
