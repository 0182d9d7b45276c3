/- Layer 14: the calls whose answers the document fixes. -/
import Derived.Test.YtapjdndcnenadaaDoorFind
import Derived.Test.YtapjdndcnenadaaDoorRSame
/- The samples of layer 14: their loops. -/
namespace Go.Proofs.YtapjdndcnenadaaDoor
open Go.RowKit

def s3 : List Ins := [⟨17, 0, 1, 0, 4⟩, ⟨15, 2, 0, 0, 3⟩, ⟨3, 3, 3, 0, 0⟩, ⟨18, 0, 0, 0, 0⟩, ⟨0, 3, 0, 0, 0⟩]
def s1 : List Ins := [⟨17, 0, 1, 0, 4⟩, ⟨15, 2, 0, 0, 3⟩, ⟨3, 1, 3, 0, 0⟩, ⟨18, 0, 0, 0, 0⟩, ⟨0, 3, 0, 0, 0⟩]
def Smp (code : List Ins) : Prop := code = s3 ∨ code = s1

theorem smp_len {code : List Ins} (h : Smp code) : code.length = 5 := by rcases h with rfl | rfl <;> rfl
theorem smp_n0 {code : List Ins} (h : Smp code) : nextL code 0 = [1, 4] := by rcases h with rfl | rfl <;> decide +kernel
theorem smp_n1 {code : List Ins} (h : Smp code) : nextL code 1 = [2, 3] := by rcases h with rfl | rfl <;> decide +kernel
theorem smp_n2 {code : List Ins} (h : Smp code) : nextL code 2 = [3] := by rcases h with rfl | rfl <;> decide +kernel
theorem smp_n3 {code : List Ins} (h : Smp code) : nextL code 3 = [0] := by rcases h with rfl | rfl <;> decide +kernel
theorem smp_n4 {code : List Ins} (h : Smp code) : nextL code 4 = [] := by rcases h with rfl | rfl <;> decide +kernel
theorem smp_r0 {code : List Ins} {g : Int} (h0 : g ≠ 0) : Rch code g 0 := .start h0
theorem smp_r1 {code : List Ins} (h : Smp code) {g : Int} (h0 : g ≠ 0) (h1 : (1 : Int) ≠ g) : Rch code g 1 := .step (smp_r0 h0) (by rw [show ((0 : Nat) : Int) = 0 from rfl, smp_n0 h]; simp) h1
theorem smp_r2 {code : List Ins} (h : Smp code) {g : Int} (h0 : g ≠ 0) (h1 : (1 : Int) ≠ g) (h2 : (2 : Int) ≠ g) : Rch code g 2 := .step (smp_r1 h h0 h1) (by rw [show ((1 : Nat) : Int) = 1 from rfl, smp_n1 h]; simp) h2
theorem smp_reach {code : List Ins} (h : Smp code) : reachL code (-1) = [true, true, true, true, true] := by
  have h0 : Rch code (-1) 0 := smp_r0 (by decide)
  have h1 : Rch code (-1) 1 := smp_r1 h (by decide) (by decide)
  have h2 : Rch code (-1) 2 := smp_r2 h (by decide) (by decide) (by decide)
  have h3 : Rch code (-1) 3 := .step h2 (by rw [show ((2 : Nat) : Int) = 2 from rfl, smp_n2 h]; simp) (by decide)
  have h4 : Rch code (-1) 4 := .step h0 (by rw [show ((0 : Nat) : Int) = 0 from rfl, smp_n0 h]; simp) (by decide)
  symm
  refine reachL_of (by rcases h with rfl | rfl <;> decide) (by rw [smp_len h]; rfl) ?_ (fun _ => by decide) ?_
  · intro v hv _
    rw [smp_len h] at hv
    match v, hv with
    | 0, _ => exact h0
    | 1, _ => exact h1
    | 2, _ => exact h2
    | 3, _ => exact h3
    | 4, _ => exact h4
  · intro u v _ hv _ _ _
    rw [smp_len h] at hv
    match v, hv with
    | 0, _ => rfl
    | 1, _ => rfl
    | 2, _ => rfl
    | 3, _ => rfl
    | 4, _ => rfl
theorem smp_edges {code : List Ins} (h : Smp code) : edgesL code = [(0, 1), (0, 4), (1, 2), (1, 3), (2, 3), (3, 0)] := by
  unfold edgesL
  rw [smp_reach h]
  rcases h with rfl | rfl <;> decide +kernel
theorem smp_not {code : List Ins} {u v : Nat} (hne : v ≠ u) (h : Rch code v u) : isBack code ((u : Int), (v : Int)) = false := by
  rw [Bool.eq_false_iff]
  intro e
  rcases (isBack_iff.1 e).2.2 with e | e
  · exact hne e
  · exact e h
theorem smp_b01 {code : List Ins} : isBack code (0, 1) = false := smp_not (u := 0) (v := 1) (by decide) (smp_r0 (by decide))
theorem smp_b04 {code : List Ins} : isBack code (0, 4) = false := smp_not (u := 0) (v := 4) (by decide) (smp_r0 (by decide))
theorem smp_b12 {code : List Ins} (h : Smp code) : isBack code (1, 2) = false := smp_not (u := 1) (v := 2) (by decide) (smp_r1 h (by decide) (by decide))
theorem smp_b13 {code : List Ins} (h : Smp code) : isBack code (1, 3) = false := smp_not (u := 1) (v := 3) (by decide) (smp_r1 h (by decide) (by decide))
theorem smp_b23 {code : List Ins} (h : Smp code) : isBack code (2, 3) = false := smp_not (u := 2) (v := 3) (by decide) (smp_r2 h (by decide) (by decide) (by decide))
theorem smp_b30 {code : List Ins} (h : Smp code) : isBack code (3, 0) = true := isBack_iff.2 (.zero (.step (smp_r2 h (by decide) (by decide) (by decide)) (by rw [show ((2 : Nat) : Int) = 2 from rfl, smp_n2 h]; simp) (by decide)))
theorem smp_backs {code : List Ins} (h : Smp code) : backsE code = [(3, 0)] := by
  unfold backsE backsIn
  rw [smp_edges h]
  simp [smp_b01, smp_b04, smp_b12 h, smp_b13 h, smp_b23 h, smp_b30 h]
theorem smp_ahead {code : List Ins} (h : Smp code) : aheadE code = [(0, 1), (0, 4), (1, 2), (1, 3), (2, 3)] := by
  unfold aheadE aheadIn
  rw [smp_edges h]
  simp [smp_b01, smp_b04, smp_b12 h, smp_b13 h, smp_b23 h, smp_b30 h]
theorem way_rise {es : List Edge} (h : ∀ e ∈ es, e.1 < e.2) {u v : Int} (hw : Way es u v) : u < v := by
  induction hw with
  | one h1 => exact h _ h1
  | more _ h1 ih => have := h _ h1; simp only at this; omega
theorem smp_no {code : List Ins} (h : Smp code) (v : Int) : ¬ Way (aheadE code) v v := fun hw => by
  rw [smp_ahead h] at hw
  have := way_rise (by decide) hw
  omega
theorem smp_to {code : List Ins} (h : Smp code) : toI (backsE code) 0 = [3] := by rw [smp_backs h]; rfl
theorem smp_heads {code : List Ins} (h : Smp code) : headsL code = [0] := by
  refine sorted_ext _ _ (headsL_sorted code) (by simp) fun x => ?_
  rw [headsL_mem, smp_backs h]
  unfold toI
  by_cases e : x = 0
  · subst e; simp
  · have e' : ¬ (0 : Int) = x := fun e2 => e e2.symm
    simp [e, e']
theorem smp_mem {code : List Ins} (h : Smp code) : memL code 0 = [0, 1, 2, 3] := by
  refine sorted_ext _ _ (memL_sorted code 0) (by simp) fun x => ?_
  rw [memL_mem (headsL_in (code := code) (h := 0) (by rw [smp_heads h]; simp))]
  unfold MemP
  rw [smp_to h, smp_edges h]
  constructor
  · rintro (rfl | hx)
    · simp
    · induction hx with
      | base hb => simp at hb; subst hb; simp
      | @step x y _ hn hy ih =>
        simp only [List.mem_cons, List.not_mem_nil, or_false] at ih hn
        rcases ih with rfl | rfl | rfl | rfl
        · exact absurd rfl hn
        all_goals (revert hy; unfold toI; simp; try omega)
  · intro hx
    have c3 : Cl [0] [3] (toI [(0, 1), (0, 4), (1, 2), (1, 3), (2, 3), (3, 0)]) 3 := .base (by simp)
    simp only [List.mem_cons, List.not_mem_nil, or_false] at hx
    rcases hx with rfl | rfl | rfl | rfl
    · exact .inl rfl
    · exact .inr (.step c3 (by simp) (by decide))
    · exact .inr (.step c3 (by simp) (by decide))
    · exact .inr c3
theorem s3_find {l : List LP} {E a : Int} (h : FindIs s3 l E a) : E = 0 ∧ a = 0 ∧ l.map LP.d = [(0, [0, 1, 2, 3], [3])] ∧ l.map LP.parent = [-1] := by
  have hs : Smp s3 := .inl rfl
  have hc : countsOf s3 0 [0, 1, 2, 3] [3] = (0, 0) := by decide +kernel
  rcases h with ⟨h, _⟩ | ⟨_, h, _⟩ | ⟨_, _, _, k, h, hk, _, hE, hn⟩ | ⟨_, _, _, hE, ha, hd, hp⟩
  · exact absurd h (by decide)
  · rcases h with ⟨_, _, _, h, _⟩ | ⟨h, _⟩
    · exact absurd h (smp_no hs _)
    · cases h
  · rw [smp_heads hs] at hk
    cases k with
    | zero =>
      simp at hk
      subst hk
      rw [smp_mem hs, smp_to hs, hc] at hE
      cases hE; exact absurd rfl hn
    | succ k => simp at hk
  · have hL : loopD s3 0 = (0, [0, 1, 2, 3], [3]) := by unfold loopD; rw [smp_mem hs, smp_to hs]
    rw [smp_heads hs, List.map_singleton, hL] at hd hp
    exact ⟨hE, ha, hd, hp.trans (by decide +kernel)⟩
theorem s1_find {l : List LP} {E a : Int} (h : FindIs s1 l E a) : E = 73 ∧ a = 2 := by
  have hs : Smp s1 := .inr rfl
  have hc : countsOf s1 0 [0, 1, 2, 3] [3] = (73, 2) := by decide +kernel
  rcases h with ⟨h, _⟩ | ⟨_, h, _⟩ | ⟨_, _, _, k, h, hk, _, hE, hn⟩ | ⟨_, _, h, _⟩
  · exact absurd h (by decide)
  · rcases h with ⟨_, _, _, h, _⟩ | ⟨h, _⟩
    · exact absurd h (smp_no hs _)
    · cases h
  · rw [smp_heads hs] at hk
    cases k with
    | zero =>
      simp at hk
      subst hk
      rw [smp_mem hs, smp_to hs, hc] at hE
      cases hE; exact ⟨rfl, rfl⟩
    | succ k => simp at hk
  · have := h 0 (by rw [smp_heads hs]; simp)
    rw [smp_mem hs, smp_to hs, hc] at this
    cases this
end Go.Proofs.YtapjdndcnenadaaDoor

namespace Go.Proofs.YtapjdndcnenadaaDoor
open Go.RowKit

/-- The function that is asked, in its box. -/
structure F4 (w W : World) (code : List Ins) : Prop where
  fn : FnAt W (w.heap.size + 1) ⟨#[]⟩ (.slice none 0 0) 0 0 (.slice (some ⟨w.heap.size, 0, none⟩) 5 5)
  code : OwnCode W w.heap.size (.slice (some ⟨w.heap.size, 0, none⟩) 5 5) code
  below : Below w.heap.size w W
  size : w.heap.size + 2 ≤ W.heap.size
theorem F4.later {w W W' : World} {code : List Ins} (h : F4 w W code) (hb : Below W.heap.size W W') : F4 w W' code :=
  have hs := h.size
  ⟨h.fn.later hb (by omega), ownsRow_below h.code hb (Nat.le_refl _), h.below.trans (hb.mono (by omega)), Nat.le_trans h.size hb.size⟩
theorem F4.store {w W : World} (h : F4 w W s3) : F4 w (W.setCell ⟨w.heap.size, 11, none⟩ (.int .i64 1)) s1 :=
  ⟨FnAt.other h.fn (by show w.heap.size + 1 ≠ w.heap.size; omega) _, (World.ownsRow.stored h.code 11 (.int .i64 1)).1, h.below.setCell (Nat.le_refl _) _, by rw [size_set]; exact h.size⟩

theorem one_loop {l : List LP} (hd : l.map LP.d = [(0, [0, 1, 2, 3], [3])]) (hp : l.map LP.parent = [-1]) : l.map LP.key = [(0, -1, [0, 1, 2, 3], [3])] ∧ depthOf l 3 = 1 ∧ depthOf l 4 = 0 ∧ l.length = 1 ∧ ∀ x ∈ l, x.mem.length ≤ 1000000 ∧ x.backs.length ≤ 1000000 := by
  match l, hd, hp with
  | [], hd, _ => simp at hd
  | [x], hd, hp =>
    obtain ⟨head, parent, vm, vb, mem, backs⟩ := x
    simp [LP.d] at hd hp
    obtain ⟨rfl, rfl, rfl⟩ := hd
    subst hp
    refine ⟨rfl, rfl, rfl, rfl, ?_⟩
    intro y hy
    simp at hy
    subst hy
    simp
  | _ :: _ :: _, hd, _ => simp at hd

/-- The list that the answer is compared with. -/
def litL (n : Nat) : List LP := [⟨0, -1, .slice (some ⟨n, 0, none⟩) 4 4, .slice (some ⟨n + 1, 0, none⟩) 1 1, [0, 1, 2, 3], [3]⟩]
theorem lit_in (w : World) : LoopsIn (((w.alloc (.cells (intVs [0, 1, 2, 3]).toArray 3)).alloc (.cells (intVs [3]).toArray 3)).alloc (.cells (loopVs (litL w.heap.size)).toArray 40)) (.slice (some ⟨w.heap.size + 1 + 1, 0, none⟩) 1 1) (litL w.heap.size) := by
  refine ⟨?_, fun x hx => ?_⟩
  · have := sliceIn_new ((w.alloc (.cells (intVs [0, 1, 2, 3]).toArray 3)).alloc (.cells (intVs [3]).toArray 3)) (loopVs (litL w.heap.size)) 1 4 40 rfl (by decide)
    rw [World.size_alloc, World.size_alloc] at this
    exact this
  · unfold litL at hx
    simp only [List.mem_cons, List.not_mem_nil, or_false] at hx
    subst hx
    refine ⟨?_, ?_⟩
    · exact SliceIn.later (sliceIn_new w (intVs [0, 1, 2, 3]) 4 1 3 rfl (by decide)) (((Below.refl _ _).alloc (Nat.le_refl _) _).alloc (by (try simp only [World.size_alloc]); (try simp only [size_set]); omega) _)
    · have := sliceIn_new (w.alloc (.cells (intVs [0, 1, 2, 3]).toArray 3)) (intVs [3]) 1 1 3 rfl (by decide)
      rw [World.size_alloc] at this
      refine SliceIn.later this ?_
      exact (Below.refl _ _).alloc (Nat.le_refl _) _

set_option maxRecDepth 100000 in
set_option maxHeartbeats 2000000 in
theorem fixed14_any (w : World) (hw : WritesIn w) : Calls Tryd.prog 12 #[] w (Gives (.bool true) w) := by
  have Hw := Lib.hid hw
  clear hw
  go_enter Tryd.func12, Tryd.ntmps12
  go_wp2_with fail
  obtain ⟨W0, hW0⟩ : ∃ W0 : World, W0 = (w.alloc (.cells (s3.flatMap Ins.cells).toArray 52)).alloc (.cells #[.string ⟨#[]⟩, .slice none 0 0, .int .i64 0, .int .i64 0, .slice (some ⟨w.heap.size, 0, none⟩) 5 5] 25) := ⟨_, rfl⟩
  have hF0 : F4 w W0 s3 := by
    rw [hW0]
    refine ⟨?_, ?_, ((Below.refl _ _).alloc (Nat.le_refl _) _).alloc (by (try simp only [World.size_alloc]); (try simp only [size_set]); omega) _, by simp⟩
    · have := FnAt.box (w.alloc (.cells (s3.flatMap Ins.cells).toArray 52)) ⟨#[]⟩ (.slice none 0 0) 0 0 (.slice (some ⟨w.heap.size, 0, none⟩) 5 5) 25
      rw [World.size_alloc] at this
      exact this
    · refine ownsRow_below (w := w.alloc (.cells (s3.flatMap Ins.cells).toArray 52)) ?_ ((Below.refl _ _).alloc (Nat.le_refl _) _) (Nat.le_refl _)
      exact ⟨rfl, .inr ⟨w.heap.size, 5, (s3.flatMap Ins.cells).toArray, rfl, Nat.le_refl _, heap_alloc_new w _, Nat.le_refl _, (by decide), (by decide), (by simp [s3, Ins.cells])⟩⟩
  have H0 := Lib.hid hF0
  change Calls _ _ _ ((w.alloc (.cells (s3.flatMap Ins.cells).toArray 52)).alloc (.cells #[.string ⟨#[]⟩, .slice none 0 0, .int .i64 0, .int .i64 0, .slice (some ⟨w.heap.size, 0, none⟩) 5 5] 25)) _
  rw [← hW0]
  clear hF0 hW0
  refine (find_any ⟨#[]⟩ (.slice none 0 0) 0 0 (.slice (some ⟨w.heap.size, 0, none⟩) 5 5) s3 _ (by decide) (SliceIn.of_owns H0.out.code) (Hw.out.next H0.out.below)).mono ?_
  rintro e w1 ⟨v, l, E, at', rfl, hl, hf, hb1⟩
  obtain ⟨rfl, rfl, hd, hp⟩ := s3_find hf
  obtain ⟨hkey, hd3, hd4, hl1, hml⟩ := one_loop hd hp
  have H1 : Hid (F4 w w1 s3) := H0.out.later hb1
  have HL := Lib.hid (And.intro (hl.mono (B' := W0.heap.size) (B1' := W0.heap.size) (Nat.le_refl _) (Nat.le_refl _)) H0.out.size)
  have HK := Lib.hid (And.intro hkey (And.intro hd3 (And.intro hd4 (And.intro hl1 hml))))
  clear hl hf hb1 hd hp hkey hd3 hd4 hl1 hml
  go_wp2_with fail
  have hlit := lit_in w1
  obtain ⟨W3, hW3⟩ : ∃ W3 : World, W3 = ((w1.alloc (.cells (intVs [0, 1, 2, 3]).toArray 3)).alloc (.cells (intVs [3]).toArray 3)).alloc (.cells (loopVs (litL w1.heap.size)).toArray 40) := ⟨_, rfl⟩
  have hb3 : Below w1.heap.size w1 W3 := by rw [hW3]; exact (((Below.refl _ _).alloc (Nat.le_refl _) _).alloc (by (try simp only [World.size_alloc]); (try simp only [size_set]); omega) _).alloc (by (try simp only [World.size_alloc]); (try simp only [size_set]); omega) _
  rw [← hW3] at hlit
  change Calls _ _ _ (((w1.alloc (.cells (intVs [0, 1, 2, 3]).toArray 3)).alloc (.cells (intVs [3]).toArray 3)).alloc (.cells (loopVs (litL w1.heap.size)).toArray 40)) _
  rw [← hW3]
  have H3 : Hid (F4 w W3 s3) := H1.out.later hb3
  have HL3 : Hid (OwnLoops W3 W0.heap.size W0.heap.size v l ∧ w.heap.size + 2 ≤ W0.heap.size) := ⟨HL.out.1.later hb3, HL.out.2⟩
  have Hlit := Lib.hid hlit
  clear hlit hW3 hb3
  refine (rsame_any v _ l (litL w1.heap.size) W3 HL3.out.1.toIn Hlit.out (by rw [HK.out.2.2.2.1]; decide) (by simp [litL]) HK.out.2.2.2.2 (by intro x hx; simp [litL] at hx; subst hx; simp)).mono ?_
  rintro e w2' ⟨he, q2, rfl⟩
  rw [HK.out.1, decide_eq_true (by rfl)] at he
  subst he
  obtain ⟨w2, hw2⟩ : ∃ w2 : World, w2 = W3.drewN q2 := ⟨_, rfl⟩
  have hb2 : Below W3.heap.size W3 w2 := by rw [hw2]; exact below_draws _ _
  rw [← hw2]
  have H2 : Hid (F4 w w2 s3) := H3.out.later hb2
  have HL2 : Hid (OwnLoops w2 W0.heap.size W0.heap.size v l ∧ w.heap.size + 2 ≤ W0.heap.size) := ⟨HL3.out.1.later hb2, HL3.out.2⟩
  clear hw2 hb2 Hlit
  obtain ⟨f0, f1, f2, f3, f4⟩ := H2.out.fn
  have c11 : w2.cell? ⟨w.heap.size, 11, none⟩ = some (.int .i64 3) := World.ownsRow.cellAt H2.out.code 11 (by decide)
  have z11 : w2.frozen? ⟨w.heap.size, 11, none⟩ = false := World.ownsRow.frozenAt H2.out.code 11
  go_wp2_with fail
  obtain ⟨w3, hw3⟩ : ∃ w3 : World, w3 = w2.setCell ⟨w.heap.size, 11, none⟩ (.int .i64 1) := ⟨_, rfl⟩
  have H4 : Hid (F4 w w3 s1) := by rw [hw3]; exact H2.out.store
  have hw0 : w.heap.size < W0.heap.size := by have := HL2.out.2; omega
  have HL4 : Hid (OwnLoops w3 W0.heap.size W0.heap.size v l) := by
    rw [hw3]
    exact ⟨ownsRow_setCell_below (a := ⟨w.heap.size, 11, none⟩) HL2.out.1.row hw0 _, fun x hx => ⟨ownsRow_setCell_below (a := ⟨w.heap.size, 11, none⟩) (HL2.out.1.each x hx).1 hw0 _, ownsRow_setCell_below (a := ⟨w.heap.size, 11, none⟩) (HL2.out.1.each x hx).2 hw0 _⟩, HL2.out.1.apart⟩
  rw [← hw3]
  clear hw3 hw0 f0 f1 f2 f3 f4 c11 z11 HL2 H2 HL3 H3 HL H1
  refine (find_any ⟨#[]⟩ (.slice none 0 0) 0 0 (.slice (some ⟨w.heap.size, 0, none⟩) 5 5) s1 _ (by decide) (SliceIn.of_owns H4.out.code) (Hw.out.next H4.out.below)).mono ?_
  rintro e w4 ⟨v4, l4, E4, at4, rfl, -, hf4, hb4⟩
  obtain ⟨rfl, rfl⟩ := s1_find hf4
  have H5 : Hid (F4 w w4 s1) := H4.out.later hb4
  have HL5 : Hid (OwnLoops w4 W0.heap.size W0.heap.size v l) := HL4.out.later hb4
  clear hf4 hb4 HL4 H4
  go_wp2_with fail
  refine (depth_any v l 3 _ HL5.out.toIn).mono ?_
  rintro e w5 ⟨he, hb5⟩
  rw [HK.out.2.1] at he
  subst he
  have H6 : Hid (F4 w w5 s1) := H5.out.later hb5
  have HL6 : Hid (OwnLoops w5 W0.heap.size W0.heap.size v l) := HL5.out.later hb5
  clear hb5 H5 HL5
  go_wp2_with fail
  refine (depth_any v l 4 _ HL6.out.toIn).mono ?_
  rintro e w6 ⟨he, hb6⟩
  rw [HK.out.2.2.1] at he
  subst he
  have H7 : Hid (F4 w w6 s1) := H6.out.later hb6
  clear hb6 H6 HL6
  go_wp2_with fail
  go_ret
  exact ⟨rfl, H7.out.below⟩
end Go.Proofs.YtapjdndcnenadaaDoor
