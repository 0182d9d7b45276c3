/- ranges: some answers that the document fixes. -/
import Derived.Test.YtgcplcffejbniaaGreatRgStraight
import Derived.Test.YtgcplcffejbniaaGreatRgInv
import Derived.Test.YtgcplcffejbniaaGreatNmAwake
import Derived.Deep.RegionHeld3
namespace Go.Proofs.YtgcplcffejbniaaGreat
open Go.RowKit Go.Maps

theorem getD_set_o {L : Array Bool} {i k : Nat} (hk : k ≠ i) : (L.setIfInBounds i true).getD k false = L.getD k false := by
  rw [Array.getD_eq_getD_getElem?, Array.getD_eq_getD_getElem?, Array.getElem?_setIfInBounds_ne (by omega)]
set_option maxRecDepth 100000 in
theorem number_any (n : Int) (W : World) : Calls Tryz.prog 10 #[.int .i64 n] W (Gives (.agg #[.int .i64 1, .int .i64 n, .string ⟨#[]⟩, nilV]) W) := by
  unfold nilV
  go_enter Tryz.func10, Tryz.ntmps10
  go_wp2_with fail
  refine bodyPost_ret (by simp [results, Tryz.results10, go_sem]; try rfl) rfl ?_
  exact ⟨rfl, (Below.refl _ _).alloc (Nat.le_refl _) _⟩
def nameN : ByteArray := ⟨#[110]⟩
def nameI : ByteArray := ⟨#[105]⟩
def nameT : ByteArray := ⟨#[116]⟩
/-- A block of its own. -/
def Blk (B : Nat) (w : World) (g : Nat) (cs : Array Value) (t : TypeId) : Prop := B ≤ g ∧ w.heap[g]? = some (.cells cs t (0, 0))
theorem Blk.later {B g : Nat} {w w' : World} {cs : Array Value} {t : TypeId} (h : Blk B w g cs t) (hb : Below w.heap.size w w') : Blk B w' g cs t := ⟨h.1, (hb.block g (Array.getElem?_eq_some_iff.1 h.2).1).trans h.2⟩
theorem Blk.cell {B g : Nat} {w : World} {cs : Array Value} {t : TypeId} (h : Blk B w g cs t) (j : Nat) : w.cell? ⟨g, j, none⟩ = cs[j]? := by rw [cell_of_row w g j _ _ (0, 0) h.2]
theorem Blk.lt {B g : Nat} {w : World} {cs : Array Value} {t : TypeId} (h : Blk B w g cs t) : g < w.heap.size := (Array.getElem?_eq_some_iff.1 h.2).1
theorem Blk.made {B : Nat} {w : World} {cs : Array Value} {t : TypeId} (hB : B ≤ w.heap.size) : Blk B (w.alloc (.cells cs t)) w.heap.size cs t := ⟨hB, heap_alloc_new w _⟩
def pmC : Array Value := #[.string nameN, .int .i64 0, .int .i64 9]
def stC : Array Value := #[.int .i64 7, .string nameI, .int .i64 0, .int .i64 1, .int .i64 0, .string ⟨#[]⟩, nilV, .int .i64 2, .int .i64 0, .string nameN, nilV, nilV, nilV, nilV]
def fnC (ga gs : Nat) : Array Value := #[.string nameF, .slice (some ⟨ga, 0, none⟩) 1 1, .slice (some ⟨gs, 0, none⟩) 1 1]
def SB (B : Nat) (w : World) (v : Value) (cs : Array Value) (t : TypeId) : Prop := ∃ g, v = .slice (some ⟨g, 0, none⟩) 1 1 ∧ Blk B w g cs t
def Parts (B : Nat) (w : World) (ga gs : Nat) : Prop := Blk B w ga pmC 37 ∧ Blk B w gs stC 43
def FV (B : Nat) (w : World) (v : Value) : Prop := ∃ ga gs, v = .agg (fnC ga gs) ∧ Parts B w ga gs
def FB (B : Nat) (w : World) (v : Value) : Prop := ∃ g ga gs, v = .slice (some ⟨g, 0, none⟩) 1 1 ∧ Blk B w g (fnC ga gs) 45 ∧ Parts B w ga gs
def PV (B : Nat) (w : World) (v : Value) : Prop := ∃ g ga gs, v = .agg #[nilV, .slice (some ⟨g, 0, none⟩) 1 1] ∧ Blk B w g (fnC ga gs) 45 ∧ Parts B w ga gs
def MB (B : Nat) (w : World) (v : Value) : Prop := ∃ m, v = .pointer (some ⟨m, 0, none⟩) ∧ Blk B w m #[nilV, nilV] 25
def MD (B : Nat) (w : World) (v : Value) : Prop := ∃ m g ga gs, v = .pointer (some ⟨m, 0, none⟩) ∧ Blk B w m #[nilV, .slice (some ⟨g, 0, none⟩) 1 1] 25 ∧ Blk B w g (fnC ga gs) 45 ∧ Parts B w ga gs
theorem SB.later {B : Nat} {w w' : World} {v : Value} {cs : Array Value} {t : TypeId} (h : SB B w v cs t) (hb : Below w.heap.size w w') : SB B w' v cs t := by obtain ⟨g, h1, h2⟩ := h; exact ⟨g, h1, h2.later hb⟩
theorem Parts.later {B ga gs : Nat} {w w' : World} (h : Parts B w ga gs) (hb : Below w.heap.size w w') : Parts B w' ga gs := ⟨h.1.later hb, h.2.later hb⟩
theorem FV.later {B : Nat} {w w' : World} {v : Value} (h : FV B w v) (hb : Below w.heap.size w w') : FV B w' v := by obtain ⟨ga, gs, h1, h2⟩ := h; exact ⟨ga, gs, h1, h2.later hb⟩
theorem FB.later {B : Nat} {w w' : World} {v : Value} (h : FB B w v) (hb : Below w.heap.size w w') : FB B w' v := by obtain ⟨g, ga, gs, h1, h2, h3⟩ := h; exact ⟨g, ga, gs, h1, h2.later hb, h3.later hb⟩
theorem PV.later {B : Nat} {w w' : World} {v : Value} (h : PV B w v) (hb : Below w.heap.size w w') : PV B w' v := by obtain ⟨g, ga, gs, h1, h2, h3⟩ := h; exact ⟨g, ga, gs, h1, h2.later hb, h3.later hb⟩
theorem MB.later {B : Nat} {w w' : World} {v : Value} (h : MB B w v) (hb : Below w.heap.size w w') : MB B w' v := by obtain ⟨m, h1, h2⟩ := h; exact ⟨m, h1, h2.later hb⟩
theorem SB.mk' {B : Nat} {w : World} {cs : Array Value} {t : TypeId} (hB : B ≤ w.heap.size) : SB B (w.alloc (.cells cs t)) (.slice (some ⟨w.heap.size, 0, none⟩) 1 1) cs t := ⟨_, rfl, .made hB⟩
theorem FB.mk' {B ga gs : Nat} {w : World} (hB : B ≤ w.heap.size) (h1 : Blk B w ga pmC 37) (h2 : Blk B w gs stC 43) : FB B (w.alloc (.cells (fnC ga gs) 45)) (.slice (some ⟨w.heap.size, 0, none⟩) 1 1) :=
  have hb : Below w.heap.size w (w.alloc (.cells (fnC ga gs) 45)) := (Below.refl _ _).alloc (Nat.le_refl _) _
  ⟨_, ga, gs, rfl, .made hB, h1.later hb, h2.later hb⟩
theorem MB.mk' {B : Nat} {w : World} (hB : B ≤ w.heap.size) : MB B (w.alloc (.cells #[nilV, nilV] 25)) (.pointer (some ⟨w.heap.size, 0, none⟩)) := ⟨_, rfl, .made hB⟩
theorem Blk.cells {B m : Nat} {w : World} (h : Blk B w m #[nilV, nilV] 25) : w.cell? ⟨m, 0, none⟩ = some nilV ∧ w.cell? ⟨m, 1, none⟩ = some nilV ∧ w.frozen? ⟨m, 0, none⟩ = false ∧ w.frozen? ⟨m, 1, none⟩ = false :=
  ⟨by rw [h.cell]; rfl, by rw [h.cell]; rfl, by simp [World.frozen?, h.2], by simp [World.frozen?, h.2]⟩
theorem MD.mk' {B m g ga gs : Nat} {w : World} (hm : Blk B w m #[nilV, nilV] 25) (h : Blk B w g (fnC ga gs) 45 ∧ Parts B w ga gs) : MD B ((w.setCell ⟨m, 0, none⟩ nilV).setCell ⟨m, 1, none⟩ (.slice (some ⟨g, 0, none⟩) 1 1)) (.pointer (some ⟨m, 0, none⟩)) := by
  have hk : ∀ i, i ≠ m → ((w.setCell ⟨m, 0, none⟩ nilV).setCell ⟨m, 1, none⟩ (.slice (some ⟨g, 0, none⟩) 1 1)).heap[i]? = w.heap[i]? := fun i hi => by
    rw [Below.heap_setCell _ _ _ _ hi, Below.heap_setCell _ _ _ _ hi]
  have hc : ∀ {gi : Nat} {cs : Array Value} {t : TypeId}, Blk B w gi cs t → t ≠ 25 → gi ≠ m := fun h ht e => by subst e; have := h.2.symm.trans hm.2; simp at this; exact ht this.2
  refine ⟨m, g, ga, gs, rfl, ⟨hm.1, ?_⟩, ⟨h.1.1, (hk g (hc h.1 (by decide))).trans h.1.2⟩, ⟨h.2.1.1, (hk _ (hc h.2.1 (by decide))).trans h.2.1.2⟩, ⟨h.2.2.1, (hk _ (hc h.2.2 (by decide))).trans h.2.2.2⟩⟩
  simp [World.setCell, Array.getElem?_modify, hm.2]
structure R5 (B c : Nat) (w0 : World) (L : Array Bool) (w : World) (v5 v6 v7 v8 v9 v10 v11 v12 v13 v2 : Value) : Prop where
  below : Below B w0 w
  size : B ≤ w.heap.size
  lt : c < B
  call : w.cell? ⟨c, 0, none⟩ = some (.int .i64 2) ∧ w.cell? ⟨c, 1, none⟩ = some (.int .i64 0) ∧ w.cell? ⟨c, 2, none⟩ = some (.string nameN) ∧ w.cell? ⟨c, 3, none⟩ = some nilV
  x0 : L.getD 0 false = true → v5 = .agg #[.string nameN, .int .i64 0, .int .i64 9]
  x1 : L.getD 1 false = true → SB B w v6 pmC 37
  x2 : L.getD 2 false = true → v7 = .agg #[.int .i64 1, .int .i64 0, .string ⟨#[]⟩, nilV]
  x3 : L.getD 3 false = true → v8 = .agg #[.int .i64 2, .int .i64 0, .string nameN, nilV]
  x4 : L.getD 4 false = true → v9 = .agg stC
  x5 : L.getD 5 false = true → SB B w v10 stC 43
  x6 : L.getD 6 false = true → FV B w v11
  x7 : L.getD 7 false = true → FB B w v12
  x8 : L.getD 8 false = true → PV B w v13
  x9 : L.getD 9 false = true → MB B w v2
theorem R5.later {B c : Nat} {w0 w w' : World} {L : Array Bool} {v5 v6 v7 v8 v9 v10 v11 v12 v13 v2 : Value} (h : R5 B c w0 L w v5 v6 v7 v8 v9 v10 v11 v12 v13 v2) (hb : Below w.heap.size w w') : R5 B c w0 L w' v5 v6 v7 v8 v9 v10 v11 v12 v13 v2 :=
  have hl := h.lt
  have hs := h.size
  have e : ∀ j, w'.cell? ⟨c, j, none⟩ = w.cell? ⟨c, j, none⟩ := fun j => hb.cell (p := ⟨c, j, none⟩) (by show c < _; omega)
  ⟨h.below.trans (hb.mono hs), Nat.le_trans hs hb.size, hl, ⟨(e 0).trans h.call.1, (e 1).trans h.call.2.1, (e 2).trans h.call.2.2.1, (e 3).trans h.call.2.2.2⟩,
   h.x0, fun hk => (h.x1 hk).later hb, h.x2, h.x3, h.x4, fun hk => (h.x5 hk).later hb, fun hk => (h.x6 hk).later hb, fun hk => (h.x7 hk).later hb, fun hk => (h.x8 hk).later hb, fun hk => (h.x9 hk).later hb⟩
theorem R5.set0 {B c : Nat} {w0 w : World} {L : Array Bool} {v5 v6 v7 v8 v9 v10 v11 v12 v13 v2 u : Value} (h : R5 B c w0 L w v5 v6 v7 v8 v9 v10 v11 v12 v13 v2) (hu : u = .agg #[.string nameN, .int .i64 0, .int .i64 9]) : R5 B c w0 (L.setIfInBounds 0 true) w u v6 v7 v8 v9 v10 v11 v12 v13 v2 :=
  ⟨h.below, h.size, h.lt, h.call, fun _ => hu, fun hk => h.x1 (getD_set_ne hk (by decide)), fun hk => h.x2 (getD_set_ne hk (by decide)), fun hk => h.x3 (getD_set_ne hk (by decide)), fun hk => h.x4 (getD_set_ne hk (by decide)), fun hk => h.x5 (getD_set_ne hk (by decide)), fun hk => h.x6 (getD_set_ne hk (by decide)), fun hk => h.x7 (getD_set_ne hk (by decide)), fun hk => h.x8 (getD_set_ne hk (by decide)), fun hk => h.x9 (getD_set_ne hk (by decide))⟩
theorem R5.set1 {B c : Nat} {w0 w : World} {L : Array Bool} {v5 v6 v7 v8 v9 v10 v11 v12 v13 v2 u : Value} (h : R5 B c w0 L w v5 v6 v7 v8 v9 v10 v11 v12 v13 v2) (hu : SB B w u pmC 37) : R5 B c w0 (L.setIfInBounds 1 true) w v5 u v7 v8 v9 v10 v11 v12 v13 v2 :=
  ⟨h.below, h.size, h.lt, h.call, fun hk => h.x0 (getD_set_ne hk (by decide)), fun _ => hu, fun hk => h.x2 (getD_set_ne hk (by decide)), fun hk => h.x3 (getD_set_ne hk (by decide)), fun hk => h.x4 (getD_set_ne hk (by decide)), fun hk => h.x5 (getD_set_ne hk (by decide)), fun hk => h.x6 (getD_set_ne hk (by decide)), fun hk => h.x7 (getD_set_ne hk (by decide)), fun hk => h.x8 (getD_set_ne hk (by decide)), fun hk => h.x9 (getD_set_ne hk (by decide))⟩
theorem R5.set2 {B c : Nat} {w0 w : World} {L : Array Bool} {v5 v6 v7 v8 v9 v10 v11 v12 v13 v2 u : Value} (h : R5 B c w0 L w v5 v6 v7 v8 v9 v10 v11 v12 v13 v2) (hu : u = .agg #[.int .i64 1, .int .i64 0, .string ⟨#[]⟩, nilV]) : R5 B c w0 (L.setIfInBounds 2 true) w v5 v6 u v8 v9 v10 v11 v12 v13 v2 :=
  ⟨h.below, h.size, h.lt, h.call, fun hk => h.x0 (getD_set_ne hk (by decide)), fun hk => h.x1 (getD_set_ne hk (by decide)), fun _ => hu, fun hk => h.x3 (getD_set_ne hk (by decide)), fun hk => h.x4 (getD_set_ne hk (by decide)), fun hk => h.x5 (getD_set_ne hk (by decide)), fun hk => h.x6 (getD_set_ne hk (by decide)), fun hk => h.x7 (getD_set_ne hk (by decide)), fun hk => h.x8 (getD_set_ne hk (by decide)), fun hk => h.x9 (getD_set_ne hk (by decide))⟩
theorem R5.set3 {B c : Nat} {w0 w : World} {L : Array Bool} {v5 v6 v7 v8 v9 v10 v11 v12 v13 v2 u : Value} (h : R5 B c w0 L w v5 v6 v7 v8 v9 v10 v11 v12 v13 v2) (hu : u = .agg #[.int .i64 2, .int .i64 0, .string nameN, nilV]) : R5 B c w0 (L.setIfInBounds 3 true) w v5 v6 v7 u v9 v10 v11 v12 v13 v2 :=
  ⟨h.below, h.size, h.lt, h.call, fun hk => h.x0 (getD_set_ne hk (by decide)), fun hk => h.x1 (getD_set_ne hk (by decide)), fun hk => h.x2 (getD_set_ne hk (by decide)), fun _ => hu, fun hk => h.x4 (getD_set_ne hk (by decide)), fun hk => h.x5 (getD_set_ne hk (by decide)), fun hk => h.x6 (getD_set_ne hk (by decide)), fun hk => h.x7 (getD_set_ne hk (by decide)), fun hk => h.x8 (getD_set_ne hk (by decide)), fun hk => h.x9 (getD_set_ne hk (by decide))⟩
theorem R5.set4 {B c : Nat} {w0 w : World} {L : Array Bool} {v5 v6 v7 v8 v9 v10 v11 v12 v13 v2 u : Value} (h : R5 B c w0 L w v5 v6 v7 v8 v9 v10 v11 v12 v13 v2) (hu : u = .agg stC) : R5 B c w0 (L.setIfInBounds 4 true) w v5 v6 v7 v8 u v10 v11 v12 v13 v2 :=
  ⟨h.below, h.size, h.lt, h.call, fun hk => h.x0 (getD_set_ne hk (by decide)), fun hk => h.x1 (getD_set_ne hk (by decide)), fun hk => h.x2 (getD_set_ne hk (by decide)), fun hk => h.x3 (getD_set_ne hk (by decide)), fun _ => hu, fun hk => h.x5 (getD_set_ne hk (by decide)), fun hk => h.x6 (getD_set_ne hk (by decide)), fun hk => h.x7 (getD_set_ne hk (by decide)), fun hk => h.x8 (getD_set_ne hk (by decide)), fun hk => h.x9 (getD_set_ne hk (by decide))⟩
theorem R5.set5 {B c : Nat} {w0 w : World} {L : Array Bool} {v5 v6 v7 v8 v9 v10 v11 v12 v13 v2 u : Value} (h : R5 B c w0 L w v5 v6 v7 v8 v9 v10 v11 v12 v13 v2) (hu : SB B w u stC 43) : R5 B c w0 (L.setIfInBounds 5 true) w v5 v6 v7 v8 v9 u v11 v12 v13 v2 :=
  ⟨h.below, h.size, h.lt, h.call, fun hk => h.x0 (getD_set_ne hk (by decide)), fun hk => h.x1 (getD_set_ne hk (by decide)), fun hk => h.x2 (getD_set_ne hk (by decide)), fun hk => h.x3 (getD_set_ne hk (by decide)), fun hk => h.x4 (getD_set_ne hk (by decide)), fun _ => hu, fun hk => h.x6 (getD_set_ne hk (by decide)), fun hk => h.x7 (getD_set_ne hk (by decide)), fun hk => h.x8 (getD_set_ne hk (by decide)), fun hk => h.x9 (getD_set_ne hk (by decide))⟩
theorem R5.set6 {B c : Nat} {w0 w : World} {L : Array Bool} {v5 v6 v7 v8 v9 v10 v11 v12 v13 v2 u : Value} (h : R5 B c w0 L w v5 v6 v7 v8 v9 v10 v11 v12 v13 v2) (hu : FV B w u) : R5 B c w0 (L.setIfInBounds 6 true) w v5 v6 v7 v8 v9 v10 u v12 v13 v2 :=
  ⟨h.below, h.size, h.lt, h.call, fun hk => h.x0 (getD_set_ne hk (by decide)), fun hk => h.x1 (getD_set_ne hk (by decide)), fun hk => h.x2 (getD_set_ne hk (by decide)), fun hk => h.x3 (getD_set_ne hk (by decide)), fun hk => h.x4 (getD_set_ne hk (by decide)), fun hk => h.x5 (getD_set_ne hk (by decide)), fun _ => hu, fun hk => h.x7 (getD_set_ne hk (by decide)), fun hk => h.x8 (getD_set_ne hk (by decide)), fun hk => h.x9 (getD_set_ne hk (by decide))⟩
theorem R5.set7 {B c : Nat} {w0 w : World} {L : Array Bool} {v5 v6 v7 v8 v9 v10 v11 v12 v13 v2 u : Value} (h : R5 B c w0 L w v5 v6 v7 v8 v9 v10 v11 v12 v13 v2) (hu : FB B w u) : R5 B c w0 (L.setIfInBounds 7 true) w v5 v6 v7 v8 v9 v10 v11 u v13 v2 :=
  ⟨h.below, h.size, h.lt, h.call, fun hk => h.x0 (getD_set_ne hk (by decide)), fun hk => h.x1 (getD_set_ne hk (by decide)), fun hk => h.x2 (getD_set_ne hk (by decide)), fun hk => h.x3 (getD_set_ne hk (by decide)), fun hk => h.x4 (getD_set_ne hk (by decide)), fun hk => h.x5 (getD_set_ne hk (by decide)), fun hk => h.x6 (getD_set_ne hk (by decide)), fun _ => hu, fun hk => h.x8 (getD_set_ne hk (by decide)), fun hk => h.x9 (getD_set_ne hk (by decide))⟩
theorem R5.set8 {B c : Nat} {w0 w : World} {L : Array Bool} {v5 v6 v7 v8 v9 v10 v11 v12 v13 v2 u : Value} (h : R5 B c w0 L w v5 v6 v7 v8 v9 v10 v11 v12 v13 v2) (hu : PV B w u) : R5 B c w0 (L.setIfInBounds 8 true) w v5 v6 v7 v8 v9 v10 v11 v12 u v2 :=
  ⟨h.below, h.size, h.lt, h.call, fun hk => h.x0 (getD_set_ne hk (by decide)), fun hk => h.x1 (getD_set_ne hk (by decide)), fun hk => h.x2 (getD_set_ne hk (by decide)), fun hk => h.x3 (getD_set_ne hk (by decide)), fun hk => h.x4 (getD_set_ne hk (by decide)), fun hk => h.x5 (getD_set_ne hk (by decide)), fun hk => h.x6 (getD_set_ne hk (by decide)), fun hk => h.x7 (getD_set_ne hk (by decide)), fun _ => hu, fun hk => h.x9 (getD_set_ne hk (by decide))⟩
theorem R5.set9 {B c : Nat} {w0 w : World} {L : Array Bool} {v5 v6 v7 v8 v9 v10 v11 v12 v13 v2 u : Value} (h : R5 B c w0 L w v5 v6 v7 v8 v9 v10 v11 v12 v13 v2) (hu : MB B w u) : R5 B c w0 (L.setIfInBounds 9 true) w v5 v6 v7 v8 v9 v10 v11 v12 v13 u :=
  ⟨h.below, h.size, h.lt, h.call, fun hk => h.x0 (getD_set_ne hk (by decide)), fun hk => h.x1 (getD_set_ne hk (by decide)), fun hk => h.x2 (getD_set_ne hk (by decide)), fun hk => h.x3 (getD_set_ne hk (by decide)), fun hk => h.x4 (getD_set_ne hk (by decide)), fun hk => h.x5 (getD_set_ne hk (by decide)), fun hk => h.x6 (getD_set_ne hk (by decide)), fun hk => h.x7 (getD_set_ne hk (by decide)), fun hk => h.x8 (getD_set_ne hk (by decide)), fun _ => hu⟩
abbrev frame5 (c : Nat) (v5 v6 v7 v8 v9 v10 v11 v12 v13 v2 : Value) : Act := { tmps := #[Value.bool false, Value.pointer (some ⟨c, 0, none⟩), v2, undef, Value.agg #[.int .i64 2, .int .i64 0, .string nameN, nilV], v5, v6, v7, v8, v9, v10, v11, v12, v13, undef, undef, undef, undef, undef, undef, undef, undef, undef, undef, undef, undef, undef, undef, undef, undef, undef, undef, undef, undef, undef, undef, undef, undef, undef, undef, undef, undef, undef], defers := [] }
def Inv5 (B c : Nat) (w0 : World) (L : Array Bool) (a : Act) (w : World) : Prop := ∃ v5 v6 v7 v8 v9 v10 v11 v12 v13 v2, a = frame5 c v5 v6 v7 v8 v9 v10 v11 v12 v13 v2 ∧
  ((L.getD 10 false = false ∧ R5 B c w0 L w v5 v6 v7 v8 v9 v10 v11 v12 v13 v2) ∨ ((∀ k, k < 11 → L.getD k false = true) ∧ MD B w v2 ∧ Below B w0 w))
theorem pm1 (i : Nat) {α : Type} {a x : α} (h : [a][i]? = some x) : i = 0 ∧ x = a := by
  match i with
  | 0 => simp at h; exact ⟨rfl, h.symm⟩
  | i + 1 => simp at h
/-- One statement without lists, in a block of its own. -/
theorem stsIn_flat {w : World} {g : Nat} (x : St) (hg : g < w.heap.size) (h : StAt w g 0 x nilV nilV nilV nilV nilV) (ha : x.a.args = []) (hb : x.b.args = []) (hd : x.body = []) (he : x.els = []) (hc : x.cases = []) : StsIn w [x] (.slice (some ⟨g, 0, none⟩) 1 1) := by
  refine .mk _ _ (fun _ => nilV) (fun _ => nilV) (fun _ => nilV) (fun _ => nilV) (fun _ => nilV) (fun _ _ => nilV) ?_ (fun i y h => ?_) (fun i y h => ?_) (fun i y h => ?_) (fun i y h => ?_) (fun i y h => ?_) (fun i y k z h hz => ?_)
  · refine ⟨some ⟨g, 0, none⟩, 1, rfl, Nat.le_refl _, by decide, by simp, fun _ => ⟨g, 0, rfl, hg, fun i hi y hy => ?_⟩⟩
    obtain ⟨rfl, rfl⟩ := pm1 i hy
    simpa using h
  all_goals obtain ⟨rfl, rfl⟩ := pm1 i h
  · rw [ha]; exact exsIn_nil w
  · rw [hb]; exact exsIn_nil w
  · rw [hd]; exact stsIn_nil w
  · rw [he]; exact stsIn_nil w
  · rw [hc]; exact rowOf_nil _ _ _
  · rw [hc] at hz; simp at hz
def stA : St := .mk 7 nameI 0 (.mk 1 0 ⟨#[]⟩ []) (.mk 2 0 nameN []) [] [] []
def stB : St := .mk 2 nameT 0 zeroEx zeroEx [] [] []
def pgA : Pg := ⟨[], [⟨nameF, [⟨nameN, 0, 9⟩], [stA]⟩]⟩
def pgB : Pg := ⟨[], [⟨nameF, [], [stB]⟩]⟩
theorem pgA_in {B g ga gs : Nat} {w : World} (hf : Blk B w g (fnC ga gs) 45) (hp : Parts B w ga gs) : PgIn w pgA nilV (.slice (some ⟨g, 0, none⟩) 1 1) (fun _ => .slice (some ⟨ga, 0, none⟩) 1 1) (fun _ => .slice (some ⟨gs, 0, none⟩) 1 1) := by
  have cf := hf.cell
  have cp := hp.1.cell
  have cs := hp.2.cell
  refine ⟨⟨rfl, none, 0, rfl, Nat.le_refl _, Nat.zero_le _, fun _ => rfl, fun h => absurd h (Nat.lt_irrefl _)⟩, ⟨?_, fun i x hx => ?_, fun i x hx => ?_⟩⟩
  · refine ⟨some ⟨g, 0, none⟩, 1, rfl, Nat.le_refl _, by decide, by simp, fun _ => ⟨g, 0, rfl, hf.lt, fun i hi x hx => ?_⟩⟩
    obtain ⟨rfl, rfl⟩ := pm1 i hx
    exact ⟨cf 0, cf 1, cf 2⟩
  · obtain ⟨rfl, rfl⟩ := pm1 i hx
    refine ⟨some ⟨ga, 0, none⟩, 1, rfl, Nat.le_refl _, by decide, by simp, fun _ => ⟨ga, 0, rfl, hp.1.lt, fun i hi x hx => ?_⟩⟩
    obtain ⟨rfl, rfl⟩ := pm1 i hx
    exact ⟨cp 0, cp 1, cp 2⟩
  · obtain ⟨rfl, rfl⟩ := pm1 i hx
    exact stsIn_flat stA hp.2.lt ⟨cs 0, cs 1, cs 2, cs 3, cs 4, cs 5, cs 6, cs 7, cs 8, cs 9, cs 10, cs 11, cs 12, cs 13⟩ rfl rfl rfl rfl rfl
def stBC : Array Value := #[.int .i64 2, .string nameT, .int .i64 0, .int .i64 0, .int .i64 0, .string ⟨#[]⟩, nilV, .int .i64 0, .int .i64 0, .string ⟨#[]⟩, nilV, nilV, nilV, nilV]
theorem pgB_in {B g gs : Nat} {w : World} (hf : Blk B w g #[.string nameF, nilV, .slice (some ⟨gs, 0, none⟩) 1 1] 45) (hp : Blk B w gs stBC 43) : PgIn w pgB nilV (.slice (some ⟨g, 0, none⟩) 1 1) (fun _ => nilV) (fun _ => .slice (some ⟨gs, 0, none⟩) 1 1) := by
  have cf := hf.cell
  have cs := hp.cell
  refine ⟨⟨rfl, none, 0, rfl, Nat.le_refl _, Nat.zero_le _, fun _ => rfl, fun h => absurd h (Nat.lt_irrefl _)⟩, ⟨?_, fun i x hx => ?_, fun i x hx => ?_⟩⟩
  · refine ⟨some ⟨g, 0, none⟩, 1, rfl, Nat.le_refl _, by decide, by simp, fun _ => ⟨g, 0, rfl, hf.lt, fun i hi x hx => ?_⟩⟩
    obtain ⟨rfl, rfl⟩ := pm1 i hx
    exact ⟨cf 0, cf 1, cf 2⟩
  · obtain ⟨rfl, rfl⟩ := pm1 i hx
    exact rowOf_nil _ _ _
  · obtain ⟨rfl, rfl⟩ := pm1 i hx
    exact stsIn_flat stB hp.lt ⟨cs 0, cs 1, cs 2, cs 3, cs 4, cs 5, cs 6, cs 7, cs 8, cs 9, cs 10, cs 11, cs 12, cs 13⟩ rfl rfl rfl rfl rfl
theorem pgA_fault : pgA.rfault = (0, 0, 0) := by kernel_rfl
theorem pgB_fault : pgB.rfault = (1, 0, 1) := by kernel_rfl
theorem pgA_str : pgA.straight 0 true = true := by kernel_rfl
theorem pgA_str2 : pgA.straight 0 false = false := by kernel_rfl
theorem pgB_str : pgB.straight 0 true = false := by kernel_rfl
theorem zeroEx_rng : zeroEx.rng := by rw [Ex.rng_eq]; exact ⟨by unfold in64; decide, trivial⟩
theorem pgA_rng : pgA.rng := fun f hf => by
  obtain rfl : f = ⟨nameF, [⟨nameN, 0, 9⟩], [stA]⟩ := by simpa [pgA] using hf
  refine ⟨⟨(St.rng_eq _).2 ⟨by unfold in64; decide, (Ex.rng_eq _).2 ⟨by unfold in64; decide, trivial⟩, (Ex.rng_eq _).2 ⟨by unfold in64; decide, trivial⟩, trivial, trivial, trivial⟩, trivial⟩, fun x hx => ?_⟩
  obtain rfl : x = ⟨nameN, 0, 9⟩ := by simpa using hx
  exact ⟨by unfold in64; decide, by unfold in64; decide⟩
theorem pgB_rng : pgB.rng := fun f hf => by
  obtain rfl : f = ⟨nameF, [], [stB]⟩ := by simpa [pgB] using hf
  exact ⟨⟨(St.rng_eq _).2 ⟨by unfold in64; decide, zeroEx_rng, zeroEx_rng, trivial, trivial, trivial⟩, trivial⟩, fun x hx => by cases hx⟩
set_option maxRecDepth 100000 in
set_option maxHeartbeats 8000000 in
theorem rgAwake_any (W : World) : Calls Tryz.prog 5 #[] W (Gives (.bool true) W) := by
  go_enter Tryz.func5, Tryz.ntmps5
  go_upto_region 2 with (fail)
  obtain ⟨W1, hW1⟩ : ∃ W1, W1 = W.alloc (.cells #[.int .i64 2, .int .i64 0, .string nameN, nilV] 35) := ⟨_, rfl⟩
  obtain ⟨c, hc⟩ : ∃ c, c = W.heap.size := ⟨_, rfl⟩
  rw [show (⟨#[110]⟩ : ByteArray) = nameN from rfl]
  change Code.wp _ _ _ _ (W.alloc (.cells #[.int .i64 2, .int .i64 0, .string nameN, nilV] 35))
  rw [← hW1, ← hc]
  have HW1 := Lib.hid (And.intro hW1 hc)
  clear hW1 hc
  refine wp_region_any rfl ?_
  change wpAny _ _ _ _ _ _ _ W1.drew
  obtain ⟨W0, hW0⟩ : ∃ W0, W0 = W1.drew := ⟨_, rfl⟩
  rw [← hW0]
  have HW0 := Lib.hid hW0
  clear hW0
  refine wpAny_inv (Inv5 (c + 1) c W0) ?_ ?_ _ _ _ _ rfl (by decide) ?_
  · intro L a w' i hs hI hi
    obtain ⟨o, ho, hlt, hLi, hall⟩ := ready_spec hi
    obtain ⟨v5, v6, v7, v8, v9, v10, v11, v12, v13, v2, rfl, hI⟩ := hI
    rcases hI with ⟨h10, hR⟩ | ⟨hfull, _⟩
    · have hno : ¬ LetsOut (fun ex a w => ex = .normal ∧ Inv5 (c + 1) c W0 (L.setIfInBounds i true) a w) := by rintro ⟨a, w, h, _⟩; cases h
      have hlt2 : i < 11 := hlt
      have hlt3 := hlt
      clear hi hlt
      match i, hlt2 with
      | 0, _ =>
        have ho2 := ho
        simp only [List.getElem?_toArray, List.getElem?_cons_zero, Option.some.injEq] at ho2
        subst ho2
        have HR := Lib.hid hR
        clear hR
        have hf9 : (L.setIfInBounds 0 true).getD 10 false = false := by rw [getD_set_o (by decide)]; exact h10
        refine wpOp_of_list ho ?_ hno
        go_wp2_with fail
        exact ⟨_, _, _, _, _, _, _, _, _, _, rfl, .inl ⟨hf9, HR.out.set0 rfl⟩⟩
      | 1, _ =>
        have ho2 := ho
        simp only [List.getElem?_toArray, List.getElem?_cons_succ, List.getElem?_cons_zero, Option.some.injEq] at ho2
        subst ho2
        have d0 : L.getD 0 false = true := hall { on := 0, ground := .data } (by simp) rfl
        obtain rfl := hR.x0 d0
        have HR := Lib.hid hR
        clear hR
        have hf9 : (L.setIfInBounds 1 true).getD 10 false = false := by rw [getD_set_o (by decide)]; exact h10
        refine wpOp_of_list ho ?_ hno
        go_wp2_with fail
        exact ⟨_, _, _, _, _, _, _, _, _, _, rfl, .inl ⟨hf9, (HR.out.later ((Below.refl _ _).alloc (Nat.le_refl _) _)).set1 (SB.mk' HR.out.size)⟩⟩
      | 2, _ =>
        have ho2 := ho
        simp only [List.getElem?_toArray, List.getElem?_cons_succ, List.getElem?_cons_zero, Option.some.injEq] at ho2
        subst ho2
        have HR := Lib.hid hR
        clear hR
        have hf9 : (L.setIfInBounds 2 true).getD 10 false = false := by rw [getD_set_o (by decide)]; exact h10
        refine wpOp_of_list ho ?_ hno
        go_wp2_with fail
        refine (number_any 0 _).mono ?_
        rintro e w1 ⟨rfl, hb1⟩
        have Hb1 := Lib.hid hb1
        clear hb1
        go_wp2_with fail
        exact ⟨_, _, _, _, _, _, _, _, _, _, rfl, .inl ⟨hf9, (HR.out.later Hb1.out).set2 rfl⟩⟩
      | 3, _ =>
        have ho2 := ho
        simp only [List.getElem?_toArray, List.getElem?_cons_succ, List.getElem?_cons_zero, Option.some.injEq] at ho2
        subst ho2
        obtain ⟨c0, c1, c2, c3⟩ := hR.call
        have HR := Lib.hid hR
        clear hR
        have hf9 : (L.setIfInBounds 3 true).getD 10 false = false := by rw [getD_set_o (by decide)]; exact h10
        refine wpOp_of_list ho ?_ hno
        go_wp2_with fail
        exact ⟨_, _, _, _, _, _, _, _, _, _, rfl, .inl ⟨hf9, HR.out.set3 rfl⟩⟩
      | 4, _ =>
        have ho2 := ho
        simp only [List.getElem?_toArray, List.getElem?_cons_succ, List.getElem?_cons_zero, Option.some.injEq] at ho2
        subst ho2
        have d2 : L.getD 2 false = true := hall { on := 2, ground := .data } (by simp) rfl
        have d3 : L.getD 3 false = true := hall { on := 3, ground := .data } (by simp) rfl
        obtain rfl := hR.x2 d2
        obtain rfl := hR.x3 d3
        have HR := Lib.hid hR
        clear hR
        have hf9 : (L.setIfInBounds 4 true).getD 10 false = false := by rw [getD_set_o (by decide)]; exact h10
        refine wpOp_of_list ho ?_ hno
        go_wp2_with fail
        exact ⟨_, _, _, _, _, _, _, _, _, _, rfl, .inl ⟨hf9, HR.out.set4 rfl⟩⟩
      | 5, _ =>
        have ho2 := ho
        simp only [List.getElem?_toArray, List.getElem?_cons_succ, List.getElem?_cons_zero, Option.some.injEq] at ho2
        subst ho2
        have d4 : L.getD 4 false = true := hall { on := 4, ground := .data } (by simp) rfl
        obtain rfl := hR.x4 d4
        have HR := Lib.hid hR
        clear hR
        have hf9 : (L.setIfInBounds 5 true).getD 10 false = false := by rw [getD_set_o (by decide)]; exact h10
        refine wpOp_of_list ho ?_ hno
        go_wp2_with fail
        exact ⟨_, _, _, _, _, _, _, _, _, _, rfl, .inl ⟨hf9, (HR.out.later ((Below.refl _ _).alloc (Nat.le_refl _) _)).set5 (SB.mk' HR.out.size)⟩⟩
      | 6, _ =>
        have ho2 := ho
        simp only [List.getElem?_toArray, List.getElem?_cons_succ, List.getElem?_cons_zero, Option.some.injEq] at ho2
        subst ho2
        have d1 : L.getD 1 false = true := hall { on := 1, ground := .data } (by simp) rfl
        have d5 : L.getD 5 false = true := hall { on := 5, ground := .data } (by simp) rfl
        obtain ⟨g1, rfl, s1⟩ := hR.x1 d1
        have S1 := Lib.hid s1
        clear s1
        obtain ⟨g5, rfl, s5⟩ := hR.x5 d5
        have S5 := Lib.hid s5
        clear s5
        have HR := Lib.hid hR
        clear hR
        have hf9 : (L.setIfInBounds 6 true).getD 10 false = false := by rw [getD_set_o (by decide)]; exact h10
        refine wpOp_of_list ho ?_ hno
        go_wp2_with fail
        exact ⟨_, _, _, _, _, _, _, _, _, _, rfl, .inl ⟨hf9, HR.out.set6 ⟨_, _, rfl, S1.out, S5.out⟩⟩⟩
      | 7, _ =>
        have ho2 := ho
        simp only [List.getElem?_toArray, List.getElem?_cons_succ, List.getElem?_cons_zero, Option.some.injEq] at ho2
        subst ho2
        have d6 : L.getD 6 false = true := hall { on := 6, ground := .data } (by simp) rfl
        obtain ⟨ga, gs, rfl, s6⟩ := hR.x6 d6
        have S6 := Lib.hid s6
        clear s6
        have HR := Lib.hid hR
        clear hR
        have hf9 : (L.setIfInBounds 7 true).getD 10 false = false := by rw [getD_set_o (by decide)]; exact h10
        refine wpOp_of_list ho ?_ hno
        unfold fnC
        go_wp2_with fail
        exact ⟨_, _, _, _, _, _, _, _, _, _, rfl, .inl ⟨hf9, (HR.out.later ((Below.refl _ _).alloc (Nat.le_refl _) _)).set7 (FB.mk' HR.out.size S6.out.1 S6.out.2)⟩⟩
      | 8, _ =>
        have ho2 := ho
        simp only [List.getElem?_toArray, List.getElem?_cons_succ, List.getElem?_cons_zero, Option.some.injEq] at ho2
        subst ho2
        have d7 : L.getD 7 false = true := hall { on := 7, ground := .data } (by simp) rfl
        obtain ⟨g, ga, gs, rfl, s7⟩ := hR.x7 d7
        have S7 := Lib.hid s7
        clear s7
        have HR := Lib.hid hR
        clear hR
        have hf9 : (L.setIfInBounds 8 true).getD 10 false = false := by rw [getD_set_o (by decide)]; exact h10
        refine wpOp_of_list ho ?_ hno
        go_wp2_with fail
        exact ⟨_, _, _, _, _, _, _, _, _, _, rfl, .inl ⟨hf9, HR.out.set8 ⟨_, _, _, rfl, S7.out⟩⟩⟩
      | 9, _ =>
        have ho2 := ho
        simp only [List.getElem?_toArray, List.getElem?_cons_succ, List.getElem?_cons_zero, Option.some.injEq] at ho2
        subst ho2
        have HR := Lib.hid hR
        clear hR
        have hf9 : (L.setIfInBounds 9 true).getD 10 false = false := by rw [getD_set_o (by decide)]; exact h10
        refine wpOp_of_list ho ?_ hno
        go_wp2_with fail
        exact ⟨_, _, _, _, _, _, _, _, _, _, rfl, .inl ⟨hf9, (HR.out.later ((Below.refl _ _).alloc (Nat.le_refl _) _)).set9 (MB.mk' HR.out.size)⟩⟩
      | 10, _ =>
        have ho2 := ho
        simp only [List.getElem?_toArray, List.getElem?_cons_succ, List.getElem?_cons_zero, Option.some.injEq] at ho2
        subst ho2
        have HR := Lib.hid hR
        clear hR
        have d0 : L.getD 0 false = true := hall { on := 0, ground := .phase } (by simp) rfl
        have d1 : L.getD 1 false = true := hall { on := 1, ground := .phase } (by simp) rfl
        have d2 : L.getD 2 false = true := hall { on := 2, ground := .phase } (by simp) rfl
        have d3 : L.getD 3 false = true := hall { on := 3, ground := .phase } (by simp) rfl
        have d4 : L.getD 4 false = true := hall { on := 4, ground := .phase } (by simp) rfl
        have d5 : L.getD 5 false = true := hall { on := 5, ground := .phase } (by simp) rfl
        have d6 : L.getD 6 false = true := hall { on := 6, ground := .phase } (by simp) rfl
        have d7 : L.getD 7 false = true := hall { on := 7, ground := .phase } (by simp) rfl
        have d8 : L.getD 8 false = true := hall { on := 8, ground := .phase } (by simp) rfl
        have d9 : L.getD 9 false = true := hall { on := 9, ground := .phase } (by simp) rfl
        have hL : ∀ k, k < 11 → (L.setIfInBounds 10 true).getD k false = true := fun k hk => by
          match k, hk with
          | 0, _ => rw [getD_set_o (by decide)]; exact d0
          | 1, _ => rw [getD_set_o (by decide)]; exact d1
          | 2, _ => rw [getD_set_o (by decide)]; exact d2
          | 3, _ => rw [getD_set_o (by decide)]; exact d3
          | 4, _ => rw [getD_set_o (by decide)]; exact d4
          | 5, _ => rw [getD_set_o (by decide)]; exact d5
          | 6, _ => rw [getD_set_o (by decide)]; exact d6
          | 7, _ => rw [getD_set_o (by decide)]; exact d7
          | 8, _ => rw [getD_set_o (by decide)]; exact d8
          | 9, _ => rw [getD_set_o (by decide)]; exact d9
          | 10, _ => rw [Array.getD_eq_getD_getElem?, Array.getElem?_setIfInBounds_self_of_lt (by rw [hs]; exact hlt3)]; rfl
          | k + 11, h => exact absurd h (by omega)
        obtain ⟨m, rfl, hm⟩ := HR.out.x9 d9
        obtain ⟨g, ga, gs, rfl, sM⟩ := HR.out.x8 d8
        have SM := Lib.hid sM
        clear sM
        obtain ⟨n0, n1, z0, z1⟩ := hm.cells
        have Hm := Lib.hid hm
        clear hm
        refine wpOp_of_list ho ?_ hno
        unfold nilV at n0 n1 ⊢
        go_wp2_with fail
        exact ⟨_, _, _, _, _, _, _, _, _, _, rfl, .inr ⟨hL, MD.mk' Hm.out SM.out, (HR.out.below.setCell Hm.out.1 _).setCell Hm.out.1 _⟩⟩
    · have := hfull i (by have : i < 11 := hlt; exact this)
      rw [Array.getD_eq_getD_getElem?] at this hLi
      cases h : L[i]? with
      | none => rw [h] at this; cases this
      | some b => rw [h] at this hLi; simp at this hLi; rw [this] at hLi; cases hLi
  · intro L a w' hs hI hr
    have hall := all_listed hs (by kernel_rfl) hr
    obtain ⟨v5, v6, v7, v8, v9, v10, v11, v12, v13, v2, rfl, hI⟩ := hI
    rcases hI with ⟨h10, _⟩ | ⟨_, hM, hb⟩
    · have := hall 10 (by decide)
      rw [h10] at this; cases this
    · obtain ⟨m, g, ga, gs, rfl, hm, hf, hp⟩ := hM
      have hbw : Below W.heap.size W w' := by
        have h0 := HW1.out.2
        have h1 : Below W.heap.size W W0 := by rw [HW0.out, HW1.out.1]; exact ((Below.refl _ _).alloc (Nat.le_refl _) _).drew
        exact h1.trans (hb.mono (by omega))
      have m0 := hm.cell 0
      have m1 := hm.cell 1
      have hml : m < w'.heap.size := hm.lt
      have HA := Lib.hid (And.intro hbw (pgA_in hf hp))
      clear hm hf hp hb hall hr hs hbw
      obtain ⟨gs2, hgs2⟩ : ∃ b, b = w'.heap.size := ⟨_, rfl⟩
      obtain ⟨W3, hW3⟩ : ∃ W3, W3 = ((w'.alloc (.cells stBC 43)).alloc (.cells #[.string nameF, nilV, .slice (some ⟨gs2, 0, none⟩) 1 1] 45)).alloc (.cells #[nilV, .slice (some ⟨gs2 + 1, 0, none⟩) 1 1] 25) := ⟨_, rfl⟩
      have hb3 : Below w'.heap.size w' W3 := by rw [hW3]; exact (((Below.refl _ _).alloc (Nat.le_refl _) _).alloc (by (try simp only [World.size_alloc]); (try simp only [size_set]); omega) _).alloc (by (try simp only [World.size_alloc]); (try simp only [size_set]); omega) _
      have q1 : (w'.alloc (.cells stBC 43)).heap.size = gs2 + 1 := by rw [hgs2]; simp
      have q2 : ((w'.alloc (.cells stBC 43)).alloc (.cells #[.string nameF, nilV, .slice (some ⟨gs2, 0, none⟩) 1 1] 45)).heap.size = gs2 + 2 := by simp; omega
      have hp3 : Blk 0 W3 gs2 stBC 43 := by
        have h1 : Blk 0 (w'.alloc (.cells stBC 43)) gs2 stBC 43 := by rw [hgs2]; exact .made (Nat.zero_le _)
        rw [hW3]
        exact (h1.later ((Below.refl _ _).alloc (Nat.le_refl _) _)).later ((Below.refl _ _).alloc (Nat.le_refl _) _)
      have hf3 : Blk 0 W3 (gs2 + 1) #[.string nameF, nilV, .slice (some ⟨gs2, 0, none⟩) 1 1] 45 := by
        have h1 : Blk 0 ((w'.alloc (.cells stBC 43)).alloc (.cells #[.string nameF, nilV, .slice (some ⟨gs2, 0, none⟩) 1 1] 45)) (gs2 + 1) #[.string nameF, nilV, .slice (some ⟨gs2, 0, none⟩) 1 1] 45 := by rw [← q1]; exact .made (Nat.zero_le _)
        rw [hW3]
        exact h1.later ((Below.refl _ _).alloc (Nat.le_refl _) _)
      have p0 : W3.cell? ⟨gs2 + 2, 0, none⟩ = some nilV := by rw [hW3]; exact World.cell?_alloc_at _ _ _ _ q2.symm
      have p1 : W3.cell? ⟨gs2 + 2, 1, none⟩ = some (.slice (some ⟨gs2 + 1, 0, none⟩) 1 1) := by rw [hW3]; exact World.cell?_alloc_at _ _ _ _ q2.symm
      have n0 := (hb3.cell (p := ⟨m, 0, none⟩) hml).trans m0
      have n1 := (hb3.cell (p := ⟨m, 1, none⟩) hml).trans m1
      have hml3 : m < W3.heap.size := block_lt_of_cell n0
      have hP3l : gs2 + 2 < W3.heap.size := block_lt_of_cell p0
      have H3 := Lib.hid (And.intro (HA.out.1.trans (hb3.mono HA.out.1.size)) (And.intro (HA.out.2.later hb3) (pgB_in hf3 hp3)))
      obtain ⟨P3, hP3⟩ : ∃ P, P = gs2 + 2 := ⟨_, rfl⟩
      obtain ⟨vB, hvB⟩ : ∃ v, v = Value.slice (some ⟨gs2 + 1, 0, none⟩) 1 1 := ⟨_, rfl⟩
      obtain ⟨vA, hvA⟩ : ∃ v, v = Value.slice (some ⟨g, 0, none⟩) 1 1 := ⟨_, rfl⟩
      rw [← hvB] at H3 p1
      rw [← hvA] at H3 n1
      rw [← hP3] at p0 p1 hP3l
      have HW3 := Lib.hid (And.intro hW3 (And.intro hgs2 (And.intro hP3 (And.intro hvB hvA))))
      unfold stBC nilV at HW3
      unfold nilV at n0 p0
      clear hgs2 hW3 hb3 q1 q2 hp3 hf3 m0 m1 hP3 hvB hvA
      show _
      go_upto_region 4 with (fail)
      rw [show (⟨#[102]⟩ : ByteArray) = nameF from rfl, show (⟨#[116]⟩ : ByteArray) = nameT from rfl, ← HW3.out.2.1, ← HW3.out.1, ← HW3.out.2.2.2.1, show gs2 + 1 + 1 = P3 from HW3.out.2.2.1.symm]
      go_wp2_with fail
      refine (rgCheck_any pgA nilV vA _ _ W3 H3.out.2.1 pgA_rng).mono ?_
      rintro e w4 ⟨rfl, hb4⟩
      rw [pgA_fault]
      unfold fltV
      have n0' := (hb4.cell (p := ⟨m, 0, none⟩) hml3).trans n0
      have n1' := (hb4.cell (p := ⟨m, 1, none⟩) hml3).trans n1
      have p0' := (hb4.cell (p := ⟨P3, 0, none⟩) hP3l).trans p0
      have p1' := (hb4.cell (p := ⟨P3, 1, none⟩) hP3l).trans p1
      have H4 := Lib.hid (And.intro (H3.out.1.trans (hb4.mono H3.out.1.size)) (And.intro (H3.out.2.1.later hb4) (H3.out.2.2.later hb4)))
      have hml4 : m < w4.heap.size := block_lt_of_cell n0'
      have hP4l : P3 < w4.heap.size := block_lt_of_cell p0'
      clear hb4 n0 n1 p0 p1
      go_wp2_with fail
      refine (rgCheck_any pgB nilV vB _ _ w4 H4.out.2.2 pgB_rng).mono ?_
      rintro e w5 ⟨rfl, hb5⟩
      rw [pgB_fault]
      unfold fltV
      have n0 := (hb5.cell (p := ⟨m, 0, none⟩) hml4).trans n0'
      have n1 := (hb5.cell (p := ⟨m, 1, none⟩) hml4).trans n1'
      have p0 := (hb5.cell (p := ⟨P3, 0, none⟩) hP4l).trans p0'
      have p1 := (hb5.cell (p := ⟨P3, 1, none⟩) hP4l).trans p1'
      have H5 := Lib.hid (And.intro (H4.out.1.trans (hb5.mono H4.out.1.size)) (And.intro (H4.out.2.1.later hb5) (H4.out.2.2.later hb5)))
      have hml5 : m < w5.heap.size := block_lt_of_cell n0
      have hP5l : P3 < w5.heap.size := block_lt_of_cell p0
      clear hb5 n0' n1' p0' p1'
      go_wp2_with fail
      refine (rgStraight_any pgA nilV vA _ _ 0 true w5 H5.out.2.1 pgA_rng (by unfold in64; decide)).mono ?_
      rintro e w6 ⟨rfl, hb6⟩
      rw [pgA_str]
      have n0' := (hb6.cell (p := ⟨m, 0, none⟩) hml5).trans n0
      have n1' := (hb6.cell (p := ⟨m, 1, none⟩) hml5).trans n1
      have p0' := (hb6.cell (p := ⟨P3, 0, none⟩) hP5l).trans p0
      have p1' := (hb6.cell (p := ⟨P3, 1, none⟩) hP5l).trans p1
      have H6 := Lib.hid (And.intro (H5.out.1.trans (hb6.mono H5.out.1.size)) (And.intro (H5.out.2.1.later hb6) (H5.out.2.2.later hb6)))
      have hml6 : m < w6.heap.size := block_lt_of_cell n0'
      have hP6l : P3 < w6.heap.size := block_lt_of_cell p0'
      clear hb6 n0 n1 p0 p1
      go_wp2_with fail
      refine (rgStraight_any pgA nilV vA _ _ 0 false w6 H6.out.2.1 pgA_rng (by unfold in64; decide)).mono ?_
      rintro e w7 ⟨rfl, hb7⟩
      rw [pgA_str2]
      have p0 := (hb7.cell (p := ⟨P3, 0, none⟩) hP6l).trans p0'
      have p1 := (hb7.cell (p := ⟨P3, 1, none⟩) hP6l).trans p1'
      have H7 := Lib.hid (And.intro (H6.out.1.trans (hb7.mono H6.out.1.size)) (H6.out.2.2.later hb7))
      clear hb7 n0' n1' p0' p1'
      go_wp2_with fail
      refine (rgStraight_any pgB nilV vB _ _ 0 true w7 H7.out.2 pgB_rng (by unfold in64; decide)).mono ?_
      rintro e w8 ⟨rfl, hb8⟩
      rw [pgB_str]
      have H8 := Lib.hid (H7.out.1.trans (hb8.mono H7.out.1.size))
      clear hb8 p0 p1
      go_wp2_with fail
      go_ret
      exact ⟨rfl, H8.out⟩
  · refine ⟨undef, undef, undef, undef, undef, undef, undef, undef, undef, undef, rfl, .inl ⟨by decide, ?_⟩⟩
    have h0 : ∀ k, (Array.replicate 11 false).getD k false = true → False := fun k hk => by
      rw [Array.getD_eq_getD_getElem?, Array.getElem?_replicate] at hk
      split at hk <;> simp at hk
    have e : ∀ j u, (#[Value.int .i64 2, .int .i64 0, .string nameN, nilV] : Array Value)[j]? = some u → W0.cell? ⟨c, j, none⟩ = some u := fun j u hu => by
      rw [HW0.out, HW1.out.1, HW1.out.2]
      show World.cell? (World.alloc _ _) _ = _
      rw [World.cell?_alloc_at _ _ _ _ rfl]; exact hu
    have hsz : W0.heap.size = c + 1 := by rw [HW0.out, HW1.out.1, HW1.out.2]; show (World.alloc _ _).heap.size = _; simp
    exact ⟨Below.refl _ _, by omega, by omega, ⟨e 0 _ rfl, e 1 _ rfl, e 2 _ rfl, e 3 _ rfl⟩, fun h => (h0 0 h).elim, fun h => (h0 1 h).elim, fun h => (h0 2 h).elim, fun h => (h0 3 h).elim, fun h => (h0 4 h).elim, fun h => (h0 5 h).elim, fun h => (h0 6 h).elim, fun h => (h0 7 h).elim, fun h => (h0 8 h).elim, fun h => (h0 9 h).elim⟩
end Go.Proofs.YtgcplcffejbniaaGreat
