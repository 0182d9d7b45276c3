/- Layer 14: the calls whose answers the document fixes. -/
import Derived.Test.YtapjdndcnenadaaDoorSmp14
import Derived.Test.YtapjdndcnenadaaDoorRSame
namespace Go.Proofs.YtapjdndcnenadaaDoor
open Go.RowKit

/-- The function that is asked, in its box. -/
structure F4 (w W : World) (code : List Ins) : Prop where
  fn : FnAt W (w.heap.size + 1) ⟨#[]⟩ (.slice none 0 0) 0 0 (.slice (some ⟨w.heap.size, 0, none⟩) 5 5)
  code : OwnCode W w.heap.size (.slice (some ⟨w.heap.size, 0, none⟩) 5 5) code
  below : Below w.heap.size w W
  size : w.heap.size + 2 ≤ W.heap.size
theorem F4.later {w W W' : World} {code : List Ins} (h : F4 w W code) (hb : Below W.heap.size W W') : F4 w W' code :=
  have hs := h.size
  ⟨h.fn.later hb (by omega), ownsRow_below h.code hb (Nat.le_refl _), h.below.trans (hb.mono (by omega)), Nat.le_trans h.size hb.size⟩
theorem F4.store {w W : World} (h : F4 w W s3) : F4 w (W.setCell ⟨w.heap.size, 11, none⟩ (.int .i64 1)) s1 :=
  ⟨FnAt.other h.fn (by show w.heap.size + 1 ≠ w.heap.size; omega) _, (World.ownsRow.stored h.code 11 (.int .i64 1)).1, h.below.setCell (Nat.le_refl _) _, by rw [size_set]; exact h.size⟩

theorem one_loop {l : List LP} (hd : l.map LP.d = [(0, [0, 1, 2, 3], [3])]) (hp : l.map LP.parent = [-1]) : l.map LP.key = [(0, -1, [0, 1, 2, 3], [3])] ∧ depthOf l 3 = 1 ∧ depthOf l 4 = 0 ∧ l.length = 1 ∧ ∀ x ∈ l, x.mem.length ≤ 1000000 ∧ x.backs.length ≤ 1000000 := by
  match l, hd, hp with
  | [], hd, _ => simp at hd
  | [x], hd, hp =>
    obtain ⟨head, parent, vm, vb, mem, backs⟩ := x
    simp [LP.d] at hd hp
    obtain ⟨rfl, rfl, rfl⟩ := hd
    subst hp
    refine ⟨rfl, rfl, rfl, rfl, ?_⟩
    intro y hy
    simp at hy
    subst hy
    simp
  | _ :: _ :: _, hd, _ => simp at hd

/-- The list that the answer is compared with. -/
def litL (n : Nat) : List LP := [⟨0, -1, .slice (some ⟨n, 0, none⟩) 4 4, .slice (some ⟨n + 1, 0, none⟩) 1 1, [0, 1, 2, 3], [3]⟩]
theorem lit_in (w : World) : LoopsIn (((w.alloc (.cells (intVs [0, 1, 2, 3]).toArray 3)).alloc (.cells (intVs [3]).toArray 3)).alloc (.cells (loopVs (litL w.heap.size)).toArray 40)) (.slice (some ⟨w.heap.size + 1 + 1, 0, none⟩) 1 1) (litL w.heap.size) := by
  refine ⟨?_, fun x hx => ?_⟩
  · have := sliceIn_new ((w.alloc (.cells (intVs [0, 1, 2, 3]).toArray 3)).alloc (.cells (intVs [3]).toArray 3)) (loopVs (litL w.heap.size)) 1 4 40 rfl (by decide)
    rw [World.size_alloc, World.size_alloc] at this
    exact this
  · unfold litL at hx
    simp only [List.mem_cons, List.not_mem_nil, or_false] at hx
    subst hx
    refine ⟨?_, ?_⟩
    · exact SliceIn.later (sliceIn_new w (intVs [0, 1, 2, 3]) 4 1 3 rfl (by decide)) (((Below.refl _ _).alloc (Nat.le_refl _) _).alloc (by (try simp only [World.size_alloc]); (try simp only [size_set]); omega) _)
    · have := sliceIn_new (w.alloc (.cells (intVs [0, 1, 2, 3]).toArray 3)) (intVs [3]) 1 1 3 rfl (by decide)
      rw [World.size_alloc] at this
      refine SliceIn.later this ?_
      exact (Below.refl _ _).alloc (Nat.le_refl _) _

set_option maxRecDepth 100000 in
set_option maxHeartbeats 2000000 in
theorem fixed14_any (w : World) (hw : WritesIn w) : Calls Tryd.prog 12 #[] w (Gives (.bool true) w) := by
  have Hw := Lib.hid hw
  clear hw
  go_enter Tryd.func12, Tryd.ntmps12
  go_wp2_with fail
  obtain ⟨W0, hW0⟩ : ∃ W0 : World, W0 = (w.alloc (.cells (s3.flatMap Ins.cells).toArray 52)).alloc (.cells #[.string ⟨#[]⟩, .slice none 0 0, .int .i64 0, .int .i64 0, .slice (some ⟨w.heap.size, 0, none⟩) 5 5] 25) := ⟨_, rfl⟩
  have hF0 : F4 w W0 s3 := by
    rw [hW0]
    refine ⟨?_, ?_, ((Below.refl _ _).alloc (Nat.le_refl _) _).alloc (by (try simp only [World.size_alloc]); (try simp only [size_set]); omega) _, by simp⟩
    · have := FnAt.box (w.alloc (.cells (s3.flatMap Ins.cells).toArray 52)) ⟨#[]⟩ (.slice none 0 0) 0 0 (.slice (some ⟨w.heap.size, 0, none⟩) 5 5) 25
      rw [World.size_alloc] at this
      exact this
    · refine ownsRow_below (w := w.alloc (.cells (s3.flatMap Ins.cells).toArray 52)) ?_ ((Below.refl _ _).alloc (Nat.le_refl _) _) (Nat.le_refl _)
      exact ⟨rfl, .inr ⟨w.heap.size, 5, (s3.flatMap Ins.cells).toArray, rfl, Nat.le_refl _, heap_alloc_new w _, Nat.le_refl _, (by decide), (by decide), (by simp [s3, Ins.cells])⟩⟩
  have H0 := Lib.hid hF0
  change Calls _ _ _ ((w.alloc (.cells (s3.flatMap Ins.cells).toArray 52)).alloc (.cells #[.string ⟨#[]⟩, .slice none 0 0, .int .i64 0, .int .i64 0, .slice (some ⟨w.heap.size, 0, none⟩) 5 5] 25)) _
  rw [← hW0]
  clear hF0 hW0
  refine (find_any ⟨#[]⟩ (.slice none 0 0) 0 0 (.slice (some ⟨w.heap.size, 0, none⟩) 5 5) s3 _ (by decide) (SliceIn.of_owns H0.out.code) (Hw.out.next H0.out.below)).mono ?_
  rintro e w1 ⟨v, l, E, at', rfl, hl, hf, hb1⟩
  obtain ⟨rfl, rfl, hd, hp⟩ := s3_find hf
  obtain ⟨hkey, hd3, hd4, hl1, hml⟩ := one_loop hd hp
  have H1 : Hid (F4 w w1 s3) := H0.out.later hb1
  have HL := Lib.hid (And.intro (hl.mono (B' := W0.heap.size) (B1' := W0.heap.size) (Nat.le_refl _) (Nat.le_refl _)) H0.out.size)
  have HK := Lib.hid (And.intro hkey (And.intro hd3 (And.intro hd4 (And.intro hl1 hml))))
  clear hl hf hb1 hd hp hkey hd3 hd4 hl1 hml
  go_wp2_with fail
  have hlit := lit_in w1
  obtain ⟨W3, hW3⟩ : ∃ W3 : World, W3 = ((w1.alloc (.cells (intVs [0, 1, 2, 3]).toArray 3)).alloc (.cells (intVs [3]).toArray 3)).alloc (.cells (loopVs (litL w1.heap.size)).toArray 40) := ⟨_, rfl⟩
  have hb3 : Below w1.heap.size w1 W3 := by rw [hW3]; exact (((Below.refl _ _).alloc (Nat.le_refl _) _).alloc (by (try simp only [World.size_alloc]); (try simp only [size_set]); omega) _).alloc (by (try simp only [World.size_alloc]); (try simp only [size_set]); omega) _
  rw [← hW3] at hlit
  change Calls _ _ _ (((w1.alloc (.cells (intVs [0, 1, 2, 3]).toArray 3)).alloc (.cells (intVs [3]).toArray 3)).alloc (.cells (loopVs (litL w1.heap.size)).toArray 40)) _
  rw [← hW3]
  have H3 : Hid (F4 w W3 s3) := H1.out.later hb3
  have HL3 : Hid (OwnLoops W3 W0.heap.size W0.heap.size v l ∧ w.heap.size + 2 ≤ W0.heap.size) := ⟨HL.out.1.later hb3, HL.out.2⟩
  have Hlit := Lib.hid hlit
  clear hlit hW3 hb3
  refine (rsame_any v _ l (litL w1.heap.size) W3 HL3.out.1.toIn Hlit.out (by rw [HK.out.2.2.2.1]; decide) (by simp [litL]) HK.out.2.2.2.2 (by intro x hx; simp [litL] at hx; subst hx; simp)).mono ?_
  rintro e w2' ⟨he, q2, rfl⟩
  rw [HK.out.1, decide_eq_true (by rfl)] at he
  subst he
  obtain ⟨w2, hw2⟩ : ∃ w2 : World, w2 = W3.drewN q2 := ⟨_, rfl⟩
  have hb2 : Below W3.heap.size W3 w2 := by rw [hw2]; exact below_draws _ _
  rw [← hw2]
  have H2 : Hid (F4 w w2 s3) := H3.out.later hb2
  have HL2 : Hid (OwnLoops w2 W0.heap.size W0.heap.size v l ∧ w.heap.size + 2 ≤ W0.heap.size) := ⟨HL3.out.1.later hb2, HL3.out.2⟩
  clear hw2 hb2 Hlit
  obtain ⟨f0, f1, f2, f3, f4⟩ := H2.out.fn
  have c11 : w2.cell? ⟨w.heap.size, 11, none⟩ = some (.int .i64 3) := World.ownsRow.cellAt H2.out.code 11 (by decide)
  have z11 : w2.frozen? ⟨w.heap.size, 11, none⟩ = false := World.ownsRow.frozenAt H2.out.code 11
  go_wp2_with fail
  obtain ⟨w3, hw3⟩ : ∃ w3 : World, w3 = w2.setCell ⟨w.heap.size, 11, none⟩ (.int .i64 1) := ⟨_, rfl⟩
  have H4 : Hid (F4 w w3 s1) := by rw [hw3]; exact H2.out.store
  have hw0 : w.heap.size < W0.heap.size := by have := HL2.out.2; omega
  have HL4 : Hid (OwnLoops w3 W0.heap.size W0.heap.size v l) := by
    rw [hw3]
    exact ⟨ownsRow_setCell_below (a := ⟨w.heap.size, 11, none⟩) HL2.out.1.row hw0 _, fun x hx => ⟨ownsRow_setCell_below (a := ⟨w.heap.size, 11, none⟩) (HL2.out.1.each x hx).1 hw0 _, ownsRow_setCell_below (a := ⟨w.heap.size, 11, none⟩) (HL2.out.1.each x hx).2 hw0 _⟩, HL2.out.1.apart⟩
  rw [← hw3]
  clear hw3 hw0 f0 f1 f2 f3 f4 c11 z11 HL2 H2 HL3 H3 HL H1
  refine (find_any ⟨#[]⟩ (.slice none 0 0) 0 0 (.slice (some ⟨w.heap.size, 0, none⟩) 5 5) s1 _ (by decide) (SliceIn.of_owns H4.out.code) (Hw.out.next H4.out.below)).mono ?_
  rintro e w4 ⟨v4, l4, E4, at4, rfl, -, hf4, hb4⟩
  obtain ⟨rfl, rfl⟩ := s1_find hf4
  have H5 : Hid (F4 w w4 s1) := H4.out.later hb4
  have HL5 : Hid (OwnLoops w4 W0.heap.size W0.heap.size v l) := HL4.out.later hb4
  clear hf4 hb4 HL4 H4
  go_wp2_with fail
  refine (depth_any v l 3 _ HL5.out.toIn).mono ?_
  rintro e w5 ⟨he, hb5⟩
  rw [HK.out.2.1] at he
  subst he
  have H6 : Hid (F4 w w5 s1) := H5.out.later hb5
  have HL6 : Hid (OwnLoops w5 W0.heap.size W0.heap.size v l) := HL5.out.later hb5
  clear hb5 H5 HL5
  go_wp2_with fail
  refine (depth_any v l 4 _ HL6.out.toIn).mono ?_
  rintro e w6 ⟨he, hb6⟩
  rw [HK.out.2.2.1] at he
  subst he
  have H7 : Hid (F4 w w6 s1) := H6.out.later hb6
  clear hb6 H6 HL6
  go_wp2_with fail
  go_ret
  exact ⟨rfl, H7.out.below⟩
end Go.Proofs.YtapjdndcnenadaaDoor
