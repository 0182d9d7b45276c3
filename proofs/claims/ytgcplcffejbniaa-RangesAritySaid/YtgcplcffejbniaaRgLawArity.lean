/- ranges: the walk of RangesArity. -/
import Derived.Test.YtgcplcffejbniaaRgArity
import Derived.Test.YtgcplcffejbniaaRgLift
import Derived.Test.YtgcplcffejbniaaHeldZ
import Derived.Deep.RegionHeld3
import Derived.IntWalk
namespace Go.Proofs.Ytgcplcffejbniaa
open Go.RowKit Go.Maps

/-- The blocks of region 12. -/
def XF (B : Nat) (w : World) (v : Value) (s : ByteArray) (va : Value) : Prop := ∃ gs, v = .agg (moreFs gs) ∧ Blk B w gs (moreCs s va) 48
def XP (B : Nat) (w : World) (g gs : Nat) (s : ByteArray) (va : Value) (size : Int) : Prop := Blk B w g (moreBs gs size) 48 ∧ Blk B w gs (moreCs s va) 48
def XB (B : Nat) (w : World) (v : Value) (s : ByteArray) (va : Value) (size : Int) : Prop := ∃ g gs, v = .slice (some ⟨g, 0, none⟩) 2 2 ∧ XP B w g gs s va size
def XG (B : Nat) (w : World) (v : Value) (s : ByteArray) (va : Value) (size : Int) : Prop := ∃ g gs, v = .agg #[.string nameZ, nilV, .slice (some ⟨g, 0, none⟩) 2 2] ∧ XP B w g gs s va size
def XM (B : Nat) (w : World) (v : Value) : Prop := ∃ m, v = .pointer (some ⟨m, 0, none⟩) ∧ Blk B w m #[.string ⟨#[]⟩, nilV, nilV] 40
def XD (B : Nat) (w : World) (v : Value) (s : ByteArray) (va : Value) (size : Int) : Prop := ∃ m g gs, v = .pointer (some ⟨m, 0, none⟩) ∧ Blk B w m #[.string nameZ, nilV, .slice (some ⟨g, 0, none⟩) 2 2] 40 ∧ XP B w g gs s va size
theorem XP.later {B g gs : Nat} {w w' : World} {s : ByteArray} {va : Value} {size : Int} (h : XP B w g gs s va size) (hb : Below w.heap.size w w') : XP B w' g gs s va size := ⟨h.1.later hb, h.2.later hb⟩
theorem XF.later {B : Nat} {w w' : World} {v : Value} {s : ByteArray} {va : Value} (h : XF B w v s va) (hb : Below w.heap.size w w') : XF B w' v s va := by obtain ⟨gs, h1, h2⟩ := h; exact ⟨gs, h1, h2.later hb⟩
theorem XB.later {B : Nat} {w w' : World} {v : Value} {s : ByteArray} {va : Value} {size : Int} (h : XB B w v s va size) (hb : Below w.heap.size w w') : XB B w' v s va size := by obtain ⟨g, gs, h1, h2⟩ := h; exact ⟨g, gs, h1, h2.later hb⟩
theorem XG.later {B : Nat} {w w' : World} {v : Value} {s : ByteArray} {va : Value} {size : Int} (h : XG B w v s va size) (hb : Below w.heap.size w w') : XG B w' v s va size := by obtain ⟨g, gs, h1, h2⟩ := h; exact ⟨g, gs, h1, h2.later hb⟩
theorem XM.later {B : Nat} {w w' : World} {v : Value} (h : XM B w v) (hb : Below w.heap.size w w') : XM B w' v := by obtain ⟨m, h1, h2⟩ := h; exact ⟨m, h1, h2.later hb⟩
theorem XB.mk' {B gs : Nat} {w : World} {s : ByteArray} {va : Value} {size : Int} (hB : B ≤ w.heap.size) (h : Blk B w gs (moreCs s va) 48) : XB B (w.alloc (.cells (moreBs gs size) 48)) (.slice (some ⟨w.heap.size, 0, none⟩) 2 2) s va size :=
  ⟨_, gs, rfl, .made hB, h.later ((Below.refl _ _).alloc (Nat.le_refl _) _)⟩
theorem XM.mk' {B : Nat} {w : World} (hB : B ≤ w.heap.size) : XM B (w.alloc (.cells #[.string ⟨#[]⟩, nilV, nilV] 40)) (.pointer (some ⟨w.heap.size, 0, none⟩)) := ⟨_, rfl, .made hB⟩
theorem Blk.cells3 {B m : Nat} {w : World} {u0 u1 u2 : Value} {t : TypeId} (h : Blk B w m #[u0, u1, u2] t) : w.cell? ⟨m, 0, none⟩ = some u0 ∧ w.cell? ⟨m, 1, none⟩ = some u1 ∧ w.cell? ⟨m, 2, none⟩ = some u2 ∧ w.frozen? ⟨m, 0, none⟩ = false ∧ w.frozen? ⟨m, 1, none⟩ = false ∧ w.frozen? ⟨m, 2, none⟩ = false :=
  ⟨by rw [h.cell]; rfl, by rw [h.cell]; rfl, by rw [h.cell]; rfl, by simp [World.frozen?, h.2], by simp [World.frozen?, h.2], by simp [World.frozen?, h.2]⟩
theorem XD.mk' {B m g gs : Nat} {w : World} {s : ByteArray} {va : Value} {size : Int} (hm : Blk B w m #[.string ⟨#[]⟩, nilV, nilV] 40) (h : XP B w g gs s va size) : XD B (((w.setCell ⟨m, 0, none⟩ (.string nameZ)).setCell ⟨m, 1, none⟩ nilV).setCell ⟨m, 2, none⟩ (.slice (some ⟨g, 0, none⟩) 2 2)) (.pointer (some ⟨m, 0, none⟩)) s va size := by
  have hk : ∀ i, i ≠ m → (((w.setCell ⟨m, 0, none⟩ (.string nameZ)).setCell ⟨m, 1, none⟩ nilV).setCell ⟨m, 2, none⟩ (.slice (some ⟨g, 0, none⟩) 2 2)).heap[i]? = w.heap[i]? := fun i hi => by
    rw [Below.heap_setCell _ _ _ _ hi, Below.heap_setCell _ _ _ _ hi, Below.heap_setCell _ _ _ _ hi]
  have hc : ∀ {gi : Nat} {cs : Array Value} {t : TypeId}, Blk B w gi cs t → t ≠ 40 → gi ≠ m := fun h ht e => by subst e; have := h.2.symm.trans hm.2; simp at this; exact ht this.2
  refine ⟨m, g, gs, rfl, ⟨hm.1, ?_⟩, ⟨h.1.1, (hk g (hc h.1 (by decide))).trans h.1.2⟩, ⟨h.2.1, (hk _ (hc h.2 (by decide))).trans h.2.2⟩⟩
  simp [World.setCell, Array.getElem?_modify, hm.2]
structure R12 (B0 X : Nat) (s : ByteArray) (va : Value) (size : Int) (w0 : World) (L : Array Bool) (w : World) (v64 v65 v66 v67 v68 v69 v70 v71 v72 v73 v11 : Value) : Prop where
  below : Below B0 w0 w
  hsz : B0 ≤ w.heap.size
  lt : X < B0
  call : w.cell? ⟨X, 0, none⟩ = some (.int .i64 4) ∧ w.cell? ⟨X, 1, none⟩ = some (.int .i64 0) ∧ w.cell? ⟨X, 2, none⟩ = some (.string s) ∧ w.cell? ⟨X, 3, none⟩ = some va
  x0 : L.getD 0 false = true → v64 = .agg #[.int .i64 1, .int .i64 0, .string ⟨#[]⟩, nilV]
  x1 : L.getD 1 false = true → v65 = .agg #[.int .i64 1, .int .i64 3, .string ⟨#[]⟩, nilV]
  x2 : L.getD 2 false = true → v66 = .agg #[.int .i64 4, .int .i64 0, .string s, va]
  x3 : L.getD 3 false = true → v67 = .agg (moreCs s va)
  x4 : L.getD 4 false = true → SB B0 w v68 (moreCs s va) 48
  x5 : L.getD 5 false = true → XF B0 w v69 s va
  x6 : L.getD 6 false = true → v70 = .int .i64 size
  x7 : L.getD 7 false = true → v71 = .agg (moreAs size)
  x8 : L.getD 8 false = true → XB B0 w v72 s va size
  x9 : L.getD 9 false = true → XG B0 w v73 s va size
  x10 : L.getD 10 false = true → XM B0 w v11
theorem R12.later {B0 X : Nat} {s : ByteArray} {va : Value} {size : Int} {w0 w w' : World} {L : Array Bool} {v64 v65 v66 v67 v68 v69 v70 v71 v72 v73 v11 : Value} (h : R12 B0 X s va size w0 L w v64 v65 v66 v67 v68 v69 v70 v71 v72 v73 v11) (hb : Below w.heap.size w w') : R12 B0 X s va size w0 L w' v64 v65 v66 v67 v68 v69 v70 v71 v72 v73 v11 :=
  have hl := h.lt
  have hs := h.hsz
  have e : ∀ j, w'.cell? ⟨X, j, none⟩ = w.cell? ⟨X, j, none⟩ := fun j => hb.cell (p := ⟨X, j, none⟩) (by show X < _; omega)
  ⟨h.below.trans (hb.mono hs), Nat.le_trans hs hb.size, hl, ⟨(e 0).trans h.call.1, (e 1).trans h.call.2.1, (e 2).trans h.call.2.2.1, (e 3).trans h.call.2.2.2⟩,
   h.x0, h.x1, h.x2, h.x3, fun hk => (h.x4 hk).later hb, fun hk => (h.x5 hk).later hb, h.x6, h.x7, fun hk => (h.x8 hk).later hb, fun hk => (h.x9 hk).later hb, fun hk => (h.x10 hk).later hb⟩
theorem R12.set0 {B0 X : Nat} {s : ByteArray} {va : Value} {size : Int} {w0 w : World} {L : Array Bool} {v64 v65 v66 v67 v68 v69 v70 v71 v72 v73 v11 u : Value} (h : R12 B0 X s va size w0 L w v64 v65 v66 v67 v68 v69 v70 v71 v72 v73 v11) (hu : u = .agg #[.int .i64 1, .int .i64 0, .string ⟨#[]⟩, nilV]) : R12 B0 X s va size w0 (L.setIfInBounds 0 true) w u v65 v66 v67 v68 v69 v70 v71 v72 v73 v11 :=
  ⟨h.below, h.hsz, h.lt, h.call, fun _ => hu, fun hk => h.x1 (getD_set_ne hk (by decide)), fun hk => h.x2 (getD_set_ne hk (by decide)), fun hk => h.x3 (getD_set_ne hk (by decide)), fun hk => h.x4 (getD_set_ne hk (by decide)), fun hk => h.x5 (getD_set_ne hk (by decide)), fun hk => h.x6 (getD_set_ne hk (by decide)), fun hk => h.x7 (getD_set_ne hk (by decide)), fun hk => h.x8 (getD_set_ne hk (by decide)), fun hk => h.x9 (getD_set_ne hk (by decide)), fun hk => h.x10 (getD_set_ne hk (by decide))⟩
theorem R12.set1 {B0 X : Nat} {s : ByteArray} {va : Value} {size : Int} {w0 w : World} {L : Array Bool} {v64 v65 v66 v67 v68 v69 v70 v71 v72 v73 v11 u : Value} (h : R12 B0 X s va size w0 L w v64 v65 v66 v67 v68 v69 v70 v71 v72 v73 v11) (hu : u = .agg #[.int .i64 1, .int .i64 3, .string ⟨#[]⟩, nilV]) : R12 B0 X s va size w0 (L.setIfInBounds 1 true) w v64 u v66 v67 v68 v69 v70 v71 v72 v73 v11 :=
  ⟨h.below, h.hsz, h.lt, h.call, fun hk => h.x0 (getD_set_ne hk (by decide)), fun _ => hu, fun hk => h.x2 (getD_set_ne hk (by decide)), fun hk => h.x3 (getD_set_ne hk (by decide)), fun hk => h.x4 (getD_set_ne hk (by decide)), fun hk => h.x5 (getD_set_ne hk (by decide)), fun hk => h.x6 (getD_set_ne hk (by decide)), fun hk => h.x7 (getD_set_ne hk (by decide)), fun hk => h.x8 (getD_set_ne hk (by decide)), fun hk => h.x9 (getD_set_ne hk (by decide)), fun hk => h.x10 (getD_set_ne hk (by decide))⟩
theorem R12.set2 {B0 X : Nat} {s : ByteArray} {va : Value} {size : Int} {w0 w : World} {L : Array Bool} {v64 v65 v66 v67 v68 v69 v70 v71 v72 v73 v11 u : Value} (h : R12 B0 X s va size w0 L w v64 v65 v66 v67 v68 v69 v70 v71 v72 v73 v11) (hu : u = .agg #[.int .i64 4, .int .i64 0, .string s, va]) : R12 B0 X s va size w0 (L.setIfInBounds 2 true) w v64 v65 u v67 v68 v69 v70 v71 v72 v73 v11 :=
  ⟨h.below, h.hsz, h.lt, h.call, fun hk => h.x0 (getD_set_ne hk (by decide)), fun hk => h.x1 (getD_set_ne hk (by decide)), fun _ => hu, fun hk => h.x3 (getD_set_ne hk (by decide)), fun hk => h.x4 (getD_set_ne hk (by decide)), fun hk => h.x5 (getD_set_ne hk (by decide)), fun hk => h.x6 (getD_set_ne hk (by decide)), fun hk => h.x7 (getD_set_ne hk (by decide)), fun hk => h.x8 (getD_set_ne hk (by decide)), fun hk => h.x9 (getD_set_ne hk (by decide)), fun hk => h.x10 (getD_set_ne hk (by decide))⟩
theorem R12.set3 {B0 X : Nat} {s : ByteArray} {va : Value} {size : Int} {w0 w : World} {L : Array Bool} {v64 v65 v66 v67 v68 v69 v70 v71 v72 v73 v11 u : Value} (h : R12 B0 X s va size w0 L w v64 v65 v66 v67 v68 v69 v70 v71 v72 v73 v11) (hu : u = .agg (moreCs s va)) : R12 B0 X s va size w0 (L.setIfInBounds 3 true) w v64 v65 v66 u v68 v69 v70 v71 v72 v73 v11 :=
  ⟨h.below, h.hsz, h.lt, h.call, fun hk => h.x0 (getD_set_ne hk (by decide)), fun hk => h.x1 (getD_set_ne hk (by decide)), fun hk => h.x2 (getD_set_ne hk (by decide)), fun _ => hu, fun hk => h.x4 (getD_set_ne hk (by decide)), fun hk => h.x5 (getD_set_ne hk (by decide)), fun hk => h.x6 (getD_set_ne hk (by decide)), fun hk => h.x7 (getD_set_ne hk (by decide)), fun hk => h.x8 (getD_set_ne hk (by decide)), fun hk => h.x9 (getD_set_ne hk (by decide)), fun hk => h.x10 (getD_set_ne hk (by decide))⟩
theorem R12.set4 {B0 X : Nat} {s : ByteArray} {va : Value} {size : Int} {w0 w : World} {L : Array Bool} {v64 v65 v66 v67 v68 v69 v70 v71 v72 v73 v11 u : Value} (h : R12 B0 X s va size w0 L w v64 v65 v66 v67 v68 v69 v70 v71 v72 v73 v11) (hu : SB B0 w u (moreCs s va) 48) : R12 B0 X s va size w0 (L.setIfInBounds 4 true) w v64 v65 v66 v67 u v69 v70 v71 v72 v73 v11 :=
  ⟨h.below, h.hsz, h.lt, h.call, fun hk => h.x0 (getD_set_ne hk (by decide)), fun hk => h.x1 (getD_set_ne hk (by decide)), fun hk => h.x2 (getD_set_ne hk (by decide)), fun hk => h.x3 (getD_set_ne hk (by decide)), fun _ => hu, fun hk => h.x5 (getD_set_ne hk (by decide)), fun hk => h.x6 (getD_set_ne hk (by decide)), fun hk => h.x7 (getD_set_ne hk (by decide)), fun hk => h.x8 (getD_set_ne hk (by decide)), fun hk => h.x9 (getD_set_ne hk (by decide)), fun hk => h.x10 (getD_set_ne hk (by decide))⟩
theorem R12.set5 {B0 X : Nat} {s : ByteArray} {va : Value} {size : Int} {w0 w : World} {L : Array Bool} {v64 v65 v66 v67 v68 v69 v70 v71 v72 v73 v11 u : Value} (h : R12 B0 X s va size w0 L w v64 v65 v66 v67 v68 v69 v70 v71 v72 v73 v11) (hu : XF B0 w u s va) : R12 B0 X s va size w0 (L.setIfInBounds 5 true) w v64 v65 v66 v67 v68 u v70 v71 v72 v73 v11 :=
  ⟨h.below, h.hsz, h.lt, h.call, fun hk => h.x0 (getD_set_ne hk (by decide)), fun hk => h.x1 (getD_set_ne hk (by decide)), fun hk => h.x2 (getD_set_ne hk (by decide)), fun hk => h.x3 (getD_set_ne hk (by decide)), fun hk => h.x4 (getD_set_ne hk (by decide)), fun _ => hu, fun hk => h.x6 (getD_set_ne hk (by decide)), fun hk => h.x7 (getD_set_ne hk (by decide)), fun hk => h.x8 (getD_set_ne hk (by decide)), fun hk => h.x9 (getD_set_ne hk (by decide)), fun hk => h.x10 (getD_set_ne hk (by decide))⟩
theorem R12.set6 {B0 X : Nat} {s : ByteArray} {va : Value} {size : Int} {w0 w : World} {L : Array Bool} {v64 v65 v66 v67 v68 v69 v70 v71 v72 v73 v11 u : Value} (h : R12 B0 X s va size w0 L w v64 v65 v66 v67 v68 v69 v70 v71 v72 v73 v11) (hu : u = .int .i64 size) : R12 B0 X s va size w0 (L.setIfInBounds 6 true) w v64 v65 v66 v67 v68 v69 u v71 v72 v73 v11 :=
  ⟨h.below, h.hsz, h.lt, h.call, fun hk => h.x0 (getD_set_ne hk (by decide)), fun hk => h.x1 (getD_set_ne hk (by decide)), fun hk => h.x2 (getD_set_ne hk (by decide)), fun hk => h.x3 (getD_set_ne hk (by decide)), fun hk => h.x4 (getD_set_ne hk (by decide)), fun hk => h.x5 (getD_set_ne hk (by decide)), fun _ => hu, fun hk => h.x7 (getD_set_ne hk (by decide)), fun hk => h.x8 (getD_set_ne hk (by decide)), fun hk => h.x9 (getD_set_ne hk (by decide)), fun hk => h.x10 (getD_set_ne hk (by decide))⟩
theorem R12.set7 {B0 X : Nat} {s : ByteArray} {va : Value} {size : Int} {w0 w : World} {L : Array Bool} {v64 v65 v66 v67 v68 v69 v70 v71 v72 v73 v11 u : Value} (h : R12 B0 X s va size w0 L w v64 v65 v66 v67 v68 v69 v70 v71 v72 v73 v11) (hu : u = .agg (moreAs size)) : R12 B0 X s va size w0 (L.setIfInBounds 7 true) w v64 v65 v66 v67 v68 v69 v70 u v72 v73 v11 :=
  ⟨h.below, h.hsz, h.lt, h.call, fun hk => h.x0 (getD_set_ne hk (by decide)), fun hk => h.x1 (getD_set_ne hk (by decide)), fun hk => h.x2 (getD_set_ne hk (by decide)), fun hk => h.x3 (getD_set_ne hk (by decide)), fun hk => h.x4 (getD_set_ne hk (by decide)), fun hk => h.x5 (getD_set_ne hk (by decide)), fun hk => h.x6 (getD_set_ne hk (by decide)), fun _ => hu, fun hk => h.x8 (getD_set_ne hk (by decide)), fun hk => h.x9 (getD_set_ne hk (by decide)), fun hk => h.x10 (getD_set_ne hk (by decide))⟩
theorem R12.set8 {B0 X : Nat} {s : ByteArray} {va : Value} {size : Int} {w0 w : World} {L : Array Bool} {v64 v65 v66 v67 v68 v69 v70 v71 v72 v73 v11 u : Value} (h : R12 B0 X s va size w0 L w v64 v65 v66 v67 v68 v69 v70 v71 v72 v73 v11) (hu : XB B0 w u s va size) : R12 B0 X s va size w0 (L.setIfInBounds 8 true) w v64 v65 v66 v67 v68 v69 v70 v71 u v73 v11 :=
  ⟨h.below, h.hsz, h.lt, h.call, fun hk => h.x0 (getD_set_ne hk (by decide)), fun hk => h.x1 (getD_set_ne hk (by decide)), fun hk => h.x2 (getD_set_ne hk (by decide)), fun hk => h.x3 (getD_set_ne hk (by decide)), fun hk => h.x4 (getD_set_ne hk (by decide)), fun hk => h.x5 (getD_set_ne hk (by decide)), fun hk => h.x6 (getD_set_ne hk (by decide)), fun hk => h.x7 (getD_set_ne hk (by decide)), fun _ => hu, fun hk => h.x9 (getD_set_ne hk (by decide)), fun hk => h.x10 (getD_set_ne hk (by decide))⟩
theorem R12.set9 {B0 X : Nat} {s : ByteArray} {va : Value} {size : Int} {w0 w : World} {L : Array Bool} {v64 v65 v66 v67 v68 v69 v70 v71 v72 v73 v11 u : Value} (h : R12 B0 X s va size w0 L w v64 v65 v66 v67 v68 v69 v70 v71 v72 v73 v11) (hu : XG B0 w u s va size) : R12 B0 X s va size w0 (L.setIfInBounds 9 true) w v64 v65 v66 v67 v68 v69 v70 v71 v72 u v11 :=
  ⟨h.below, h.hsz, h.lt, h.call, fun hk => h.x0 (getD_set_ne hk (by decide)), fun hk => h.x1 (getD_set_ne hk (by decide)), fun hk => h.x2 (getD_set_ne hk (by decide)), fun hk => h.x3 (getD_set_ne hk (by decide)), fun hk => h.x4 (getD_set_ne hk (by decide)), fun hk => h.x5 (getD_set_ne hk (by decide)), fun hk => h.x6 (getD_set_ne hk (by decide)), fun hk => h.x7 (getD_set_ne hk (by decide)), fun hk => h.x8 (getD_set_ne hk (by decide)), fun _ => hu, fun hk => h.x10 (getD_set_ne hk (by decide))⟩
theorem R12.set10 {B0 X : Nat} {s : ByteArray} {va : Value} {size : Int} {w0 w : World} {L : Array Bool} {v64 v65 v66 v67 v68 v69 v70 v71 v72 v73 v11 u : Value} (h : R12 B0 X s va size w0 L w v64 v65 v66 v67 v68 v69 v70 v71 v72 v73 v11) (hu : XM B0 w u) : R12 B0 X s va size w0 (L.setIfInBounds 10 true) w v64 v65 v66 v67 v68 v69 v70 v71 v72 v73 u :=
  ⟨h.below, h.hsz, h.lt, h.call, fun hk => h.x0 (getD_set_ne hk (by decide)), fun hk => h.x1 (getD_set_ne hk (by decide)), fun hk => h.x2 (getD_set_ne hk (by decide)), fun hk => h.x3 (getD_set_ne hk (by decide)), fun hk => h.x4 (getD_set_ne hk (by decide)), fun hk => h.x5 (getD_set_ne hk (by decide)), fun hk => h.x6 (getD_set_ne hk (by decide)), fun hk => h.x7 (getD_set_ne hk (by decide)), fun hk => h.x8 (getD_set_ne hk (by decide)), fun hk => h.x9 (getD_set_ne hk (by decide)), fun _ => hu⟩
abbrev frameM (r : Nat → Value) (B C X j k : Nat) (size : Int) (v64 v65 v66 v67 v68 v69 v70 v71 v72 v73 v11 : Value) : Act := { tmps := List.toArray (r 0 :: Value.int .i64 (j : Int) :: Value.int .i64 (k : Int) :: Value.int .i64 size :: Value.pointer (some ⟨B, 0, none⟩) :: undef :: undef :: undef :: Value.bool false :: Value.pointer (some ⟨X, 0, none⟩) :: Value.pointer (some ⟨C, 0, none⟩) :: v11 :: undef :: undef :: r 14 :: r 15 :: r 16 :: r 17 :: r 18 :: r 19 :: r 20 :: r 21 :: r 22 :: r 23 :: r 24 :: r 25 :: r 26 :: r 27 :: r 28 :: r 29 :: r 30 :: r 31 :: r 32 :: r 33 :: r 34 :: r 35 :: r 36 :: r 37 :: r 38 :: r 39 :: r 40 :: r 41 :: r 42 :: r 43 :: r 44 :: r 45 :: r 46 :: r 47 :: r 48 :: r 49 :: r 50 :: r 51 :: r 52 :: r 53 :: r 54 :: r 55 :: r 56 :: r 57 :: r 58 :: r 59 :: r 60 :: r 61 :: r 62 :: r 63 :: v64 :: v65 :: v66 :: v67 :: v68 :: v69 :: v70 :: v71 :: v72 :: v73 :: undef :: undef :: undef :: undef :: undef :: undef :: undef :: undef :: undef :: undef :: undef :: undef :: undef :: undef :: undef :: undef :: undef :: undef :: undef :: undef :: undef :: undef :: undef :: undef :: undef :: undef :: undef :: undef :: undef :: undef :: undef :: undef :: undef :: undef :: undef :: undef :: undef :: undef :: undef :: undef :: undef :: undef :: undef :: undef :: undef :: undef :: undef :: undef :: undef :: undef :: undef :: undef :: undef :: undef :: undef :: undef :: undef :: undef :: undef :: undef :: undef :: undef :: []), defers := [] }
def InvM (r : Nat → Value) (B C j k : Nat) (B0 X : Nat) (s : ByteArray) (va : Value) (size : Int) (w0 : World) (L : Array Bool) (a : Act) (w : World) : Prop := ∃ v64 v65 v66 v67 v68 v69 v70 v71 v72 v73 v11, a = frameM r B C X j k size v64 v65 v66 v67 v68 v69 v70 v71 v72 v73 v11 ∧
  ((L.getD 11 false = false ∧ R12 B0 X s va size w0 L w v64 v65 v66 v67 v68 v69 v70 v71 v72 v73 v11) ∨ ((∀ k, k < 12 → L.getD k false = true) ∧ XD B0 w v11 s va size ∧ Below B0 w0 w))
theorem frameM_of {Φ : Act → Prop} {T : Array Value} {B C X j k : Nat} {size : Int} (hT : (frameM (fun i => T.getD i undef) B C X j k size undef undef undef undef undef undef undef undef undef undef undef).tmps = T) (h : ∀ r, Φ (frameM r B C X j k size undef undef undef undef undef undef undef undef undef undef undef)) : Φ { tmps := T, defers := [] } := by
  have h2 := h (fun i => T.getD i undef)
  have e : frameM (fun i => T.getD i undef) B C X j k size undef undef undef undef undef undef undef undef undef undef undef = { tmps := T, defers := [] } := congrArg (fun t => ({ tmps := t, defers := [] } : Act)) hT
  rw [e] at h2
  exact h2
theorem set3 {w : World} {D : Nat} {a b c u0 u1 u2 : Value} (h0 : w.cell? ⟨D, 0, none⟩ = some u0) (h1 : w.cell? ⟨D, 1, none⟩ = some u1) (h2 : w.cell? ⟨D, 2, none⟩ = some u2) : Below D w (((w.setCell ⟨D, 0, none⟩ a).setCell ⟨D, 1, none⟩ b).setCell ⟨D, 2, none⟩ c) ∧
    (((w.setCell ⟨D, 0, none⟩ a).setCell ⟨D, 1, none⟩ b).setCell ⟨D, 2, none⟩ c).cell? ⟨D, 0, none⟩ = some a ∧ (((w.setCell ⟨D, 0, none⟩ a).setCell ⟨D, 1, none⟩ b).setCell ⟨D, 2, none⟩ c).cell? ⟨D, 1, none⟩ = some b ∧ (((w.setCell ⟨D, 0, none⟩ a).setCell ⟨D, 1, none⟩ b).setCell ⟨D, 2, none⟩ c).cell? ⟨D, 2, none⟩ = some c := by
  have n01 : ∀ (x : World) (v : Value), (x.setCell ⟨D, 1, none⟩ v).cell? ⟨D, 0, none⟩ = x.cell? ⟨D, 0, none⟩ := fun x v => World.cell?_setCell_other _ _ _ _ (by intro e; cases e)
  have n02 : ∀ (x : World) (v : Value), (x.setCell ⟨D, 2, none⟩ v).cell? ⟨D, 0, none⟩ = x.cell? ⟨D, 0, none⟩ := fun x v => World.cell?_setCell_other _ _ _ _ (by intro e; cases e)
  have n12 : ∀ (x : World) (v : Value), (x.setCell ⟨D, 2, none⟩ v).cell? ⟨D, 1, none⟩ = x.cell? ⟨D, 1, none⟩ := fun x v => World.cell?_setCell_other _ _ _ _ (by intro e; cases e)
  have n10 : ∀ (x : World) (v : Value), (x.setCell ⟨D, 0, none⟩ v).cell? ⟨D, 1, none⟩ = x.cell? ⟨D, 1, none⟩ := fun x v => World.cell?_setCell_other _ _ _ _ (by intro e; cases e)
  have n20 : ∀ (x : World) (v : Value), (x.setCell ⟨D, 0, none⟩ v).cell? ⟨D, 2, none⟩ = x.cell? ⟨D, 2, none⟩ := fun x v => World.cell?_setCell_other _ _ _ _ (by intro e; cases e)
  have n21 : ∀ (x : World) (v : Value), (x.setCell ⟨D, 1, none⟩ v).cell? ⟨D, 2, none⟩ = x.cell? ⟨D, 2, none⟩ := fun x v => World.cell?_setCell_other _ _ _ _ (by intro e; cases e)
  refine ⟨(((Below.refl D w).setCell (p := ⟨D, 0, none⟩) (Nat.le_refl D) a).setCell (p := ⟨D, 1, none⟩) (Nat.le_refl D) b).setCell (p := ⟨D, 2, none⟩) (Nat.le_refl D) c, ?_, ?_, ?_⟩
  · rw [n02, n01]; exact World.cell?_setCell_same' _ _ _ (by rw [h0]; rfl)
  · rw [n12]; exact World.cell?_setCell_same' _ _ _ (by rw [n10, h1]; rfl)
  · exact World.cell?_setCell_same' _ _ _ (by rw [n21, n20, h2]; rfl)
set_option maxRecDepth 100000 in
set_option maxHeartbeats 16000000 in
theorem rgLawArity_any (W : World) (p : Pg) (vw vf : Value) (vp vb : Nat → Value) (k0 k1 k2 : Int) (h : PgIn W p vw vf vp vb) (_ : p.near) (hrg : p.rng) (hk0 : in64 k0) (hk1 : in64 k1) (hk2 : in64 k2) : Calls Try.prog 6 #[pgV vw vf, .int .i64 k0, .int .i64 k1, .int .i64 k2] W (Gives (.bool true) W) := by
  obtain ⟨aw, cw, rfl, -⟩ := h.widen.row.form
  obtain ⟨a, cap, rfl, hc1, hc2⟩ := h.funcs.row.form
  obtain ⟨n, hn⟩ : ∃ n, n = p.funcs.length := ⟨_, rfl⟩
  obtain ⟨m, hm⟩ : ∃ m, m = p.widen.length := ⟨_, rfl⟩
  rw [← hn, ← hm] at h
  rw [← hn, ← hm]
  rw [← hn] at hc1
  have hn62 : n ≤ 9223372036854775807 := by have : maxLen ≤ 9223372036854775807 := by decide
                                            omega
  have hk01 : -9223372036854775808 ≤ k0 ∧ k0 ≤ 9223372036854775807 := hk0
  have hk11 : -9223372036854775808 ≤ k1 ∧ k1 ≤ 9223372036854775807 := hk1
  have HP := Lib.hid h
  have Hl := Lib.hid (And.intro hm hn)
  have Hrg := Lib.hid hrg
  have Hk := Lib.hid (And.intro hk0 (And.intro hk1 hk2))
  have Hrow : Hid (RowOf W (.slice a n cap) p.funcs.length 3 (fun b o i => ∀ x, p.funcs[i]? = some x → FnCells W b o x (vp i) (vb i))) := by have := h.funcs.row; rw [hn] at this ⊢; exact this
  obtain ⟨W1, hW1⟩ : ∃ W1, W1 = W.alloc (.cells #[.slice aw m cw, .slice a n cap] 26) := ⟨_, rfl⟩
  obtain ⟨B, hB⟩ : ∃ B, B = W.heap.size := ⟨_, rfl⟩
  have hb1 : Below W.heap.size W W1 := by rw [hW1]; exact (Below.refl _ _).alloc (Nat.le_refl _) _
  have c0 : W1.cell? ⟨B, 0, none⟩ = some (.slice aw m cw) := by rw [hW1, hB]; exact World.cell?_alloc_at _ _ _ _ rfl
  have c1 : W1.cell? ⟨B, 1, none⟩ = some (.slice a n cap) := by rw [hW1, hB]; exact World.cell?_alloc_at _ _ _ _ rfl
  have qB : B < W1.heap.size := by rw [hW1, hB]; simp
  have HW1 := Lib.hid (And.intro hW1 hB)
  have H1 := Lib.hid (And.intro hb1 (And.intro c0 c1))
  unfold pgV
  clear h hn hm hrg hk0 hk1 hk2 hW1 hB hb1 c0 c1
  go_enter Try.func6, Try.ntmps6
  go_upto_region 1 with (fail)
  rw [← HW1.out.1, ← HW1.out.2]
  go_wp2_with fail
  refine (rgAwake_any W1).mono ?_
  rintro e w2 ⟨rfl, hb2⟩
  have c0 := (hb2.cell (p := ⟨B, 0, none⟩) qB).trans H1.out.2.1
  have c1 := (hb2.cell (p := ⟨B, 1, none⟩) qB).trans H1.out.2.2
  have H2 := Lib.hid (H1.out.1.trans (hb2.mono H1.out.1.size))
  have q2 : B < w2.heap.size := Nat.lt_of_lt_of_le qB hb2.size
  clear hb2
  go_wp2_with fail
  refine (rgCheck_any p (.slice aw m cw) (.slice a n cap) vp vb w2 (HP.out.later H2.out) Hrg.out).mono ?_
  rintro e w3 ⟨rfl, hb3⟩
  obtain ⟨t, ht⟩ : ∃ t, t = p.rfault := ⟨_, rfl⟩
  rw [← ht]
  have Ht := Lib.hid ht
  obtain ⟨ea, eb, ec⟩ := t
  unfold fltV
  rw [← hb3.cell (p := ⟨B, _, none⟩) q2] at c0 c1
  have H3 := Lib.hid (H2.out.trans (hb3.mono H2.out.size))
  have q3 : B < w3.heap.size := Nat.lt_of_lt_of_le q2 hb3.size
  clear ht hb3
  have hfe := rgRun_faultE
  by_cases he : ea = 0
  · subst he
    by_cases h1 : k0 < 0
    · --<A
      have hd : decide (k0 < 0) = true := by simpa using h1
      go_wp2_with fail
      go_ret
      exact ⟨rfl, H3.out⟩
      --A>
    by_cases h2 : (n : Int) ≤ k0
    · --<B
      have hd : decide (k0 < 0) = false := by simpa using h1
      have hd2 : decide ((n : Int) ≤ k0) = true := by simpa using h2
      go_wp2_with fail
      go_ret
      exact ⟨rfl, H3.out⟩
      --B>
    by_cases h3 : 32 ≤ n
    · --<C
      have hd : decide (k0 < 0) = false := by simpa using h1
      have hd2 : decide ((n : Int) ≤ k0) = false := by simpa using h2
      have hd3 : decide ((32 : Int) ≤ (n : Int)) = true := by simp; omega
      go_wp2_with fail
      go_ret
      exact ⟨rfl, H3.out⟩
      --C>
    have hd : decide (k0 < 0) = false := by simpa using h1
    have hd2 : decide ((n : Int) ≤ k0) = false := by simpa using h2
    have hd3 : decide ((32 : Int) ≤ (n : Int)) = false := by simp; omega
    go_wp2_with fail
    refine (nodes_any p (.slice aw m cw) (.slice a n cap) vp vb w3 (HP.out.later H3.out)).mono ?_
    rintro e w4 ⟨rfl, hb4⟩
    rw [← hb4.cell (p := ⟨B, _, none⟩) q3] at c0 c1
    have H4 := Lib.hid (H3.out.trans (hb4.mono H3.out.size))
    have q4 : B < w4.heap.size := Nat.lt_of_lt_of_le q3 hb4.size
    clear hb4
    obtain ⟨t, ht⟩ : ∃ t, t = upto (Fn.count p.funcs) := ⟨_, rfl⟩
    rw [← ht]
    have Hcnt := Lib.hid ht
    clear ht
    by_cases h4 : 4066 < t
    · have hd4 : decide ((4066 : Int) < (t : Int)) = true := by simp; omega
      go_wp2_with fail
      go_ret
      exact ⟨rfl, H4.out⟩
    have hd4 : decide ((4066 : Int) < (t : Int)) = false := by simp; omega
    go_upto_region 6 with (fail)
    clear hd hd2 hd3 hd4
    obtain ⟨k, hk⟩ : ∃ k : Nat, (k : Int) = max 0 (min k1 20) := ⟨(max 0 (min k1 20)).toNat, by omega⟩
    rw [← hk]
    have hk20 : k ≤ 20 := by omega
    clear hk hk11
    obtain ⟨j, rfl⟩ : ∃ j : Nat, k0 = (j : Int) := ⟨k0.toNat, by omega⟩
    have hjn : j < n := by omega
    have hn32 : n < 32 := by omega
    have Ht4 : Hid (Fn.count p.funcs ≤ 4066) := by have := Hcnt.out; unfold upto at this; show Fn.count p.funcs ≤ 4066; omega
    clear h1 h2 h3 h4 Hcnt
    obtain ⟨f, hf⟩ : ∃ f, p.funcs[j]? = some f := ⟨_, List.getElem?_eq_getElem (by rw [← Hl.out.2]; exact hjn)⟩
    obtain ⟨b, off, rfl, hb, hP⟩ := Hrow.out.at (i := j) (by rw [← Hl.out.2]; exact hjn)
    have hfc := (hP f hf).later H4.out hb
    have hq := hb
    obtain ⟨ap, cp, hvp, -⟩ := (HP.out.funcs.params j f hf).form
    obtain ⟨np, hnp⟩ : ∃ n, n = f.params.length := ⟨_, rfl⟩
    rw [hvp, ← hnp] at hfc
    have Hf := Lib.hid (And.intro hf hnp)
    obtain ⟨g0, g1, -⟩ := hfc
    have hb4 : b < w4.heap.size := Nat.lt_of_lt_of_le hb H4.out.size
    obtain ⟨X, hX⟩ : ∃ X, X = w4.heap.size := ⟨_, rfl⟩
    obtain ⟨W5, hW5⟩ : ∃ w : World, w = w4.alloc (.cells #[.int .i64 4, .int .i64 0, .string f.name, .slice none 0 0] 43) := ⟨_, rfl⟩
    have hb5 : Below w4.heap.size w4 W5 := by rw [hW5]; exact (Below.refl _ _).alloc (Nat.le_refl _) _
    have x0 : W5.cell? ⟨X, 0, none⟩ = some (.int .i64 4) := by rw [hW5, hX]; exact World.cell?_alloc_at _ _ _ _ rfl
    have x1 : W5.cell? ⟨X, 1, none⟩ = some (.int .i64 0) := by rw [hW5, hX]; exact World.cell?_alloc_at _ _ _ _ rfl
    have x2 : W5.cell? ⟨X, 2, none⟩ = some (.string f.name) := by rw [hW5, hX]; exact World.cell?_alloc_at _ _ _ _ rfl
    have x3 : W5.cell? ⟨X, 3, none⟩ = some (.slice none 0 0) := by rw [hW5, hX]; exact World.cell?_alloc_at _ _ _ _ rfl
    have hX5 : X < W5.heap.size ∧ w4.heap.size ≤ X := by rw [hW5, hX]; simp
    have z3 : ∀ j, W5.frozen? ⟨X, j, none⟩ = false := fun j => by rw [hW5, hX]; exact World.frozen?_alloc_at _ _ _ _ rfl
    have HW5 := Lib.hid (And.intro hW5 hX)
    have H5 := Lib.hid (And.intro hb5 (And.intro (And.intro x0 (And.intro x1 (And.intro x2 x3))) (And.intro z3 hX5)))
    have Hg := Lib.hid (And.intro g0 (And.intro g1 hb4))
    have Hc := Lib.hid (And.intro c0 (And.intro c1 q4))
    clear hf hvp hnp hP hb5 hW5 hX x0 x1 x2 x3 z3
    go_upto_region 7 with (fail)
    rw [← HW5.out.1, ← HW5.out.2]
    clear g0 g1 c0 c1 HW5
    have hk0 : ∃ K : Nat, K = k := ⟨_, rfl⟩
    go_wp2_with fail
    go_loopg [53] k (fun g iv wx => ∃ (i : Nat) (v : Value), g = k - i ∧ iv = .int .i64 (i : Int) ∧ i ≤ k ∧ wx.ownsRow (X + 1) 43 4 v i (rowsOf argVs i) ∧
      (wx.cell? ⟨X, 0, none⟩ = some (.int .i64 4) ∧ wx.cell? ⟨X, 1, none⟩ = some (.int .i64 0) ∧ wx.cell? ⟨X, 2, none⟩ = some (.string f.name) ∧ wx.cell? ⟨X, 3, none⟩ = some v) ∧
      ((∀ j, wx.frozen? ⟨X, j, none⟩ = false) ∧ X < wx.heap.size) ∧ Below w4.heap.size w4 wx)
    case atStart => exact ⟨0, _, rfl, rfl, Nat.zero_le _, World.ownsRow_nil _ _ _ _, H5.out.2.1, ⟨H5.out.2.2.1, H5.out.2.2.2.1⟩, H5.out.1⟩
    case round =>
      obtain ⟨i, v, hg, rfl, hi, how, ⟨x0, x1, x2, x3⟩, ⟨z3, hXr⟩, hbw⟩ := hrel
      obtain ⟨va, vn, vc, hv⟩ : ∃ va vn vc, v = .slice va vn vc := by
        rcases how.2 with ⟨rfl, _⟩ | ⟨g, cap, cur, rfl, _⟩
        · exact ⟨_, _, _, rfl⟩
        · exact ⟨_, _, _, rfl⟩
      have HK := Lib.hid (And.intro how (And.intro x3 (And.intro (And.intro z3 hXr) (And.intro hbw hg))))
      have HX := Lib.hid (And.intro x0 (And.intro x1 x2))
      clear how z3 hbw hg
      by_cases hik : i < k
      · have hik2 : (i : Int) < (k : Int) := by omega
        subst hv
        go_upto_region 9 with (fail)
        refine wp_region_heldZ (S := fun w => w.cell? ⟨X, 3, none⟩ = some (.slice va vn vc)) (z := 6) rfl ?_
        change wpAnyZ _ _ _ _ _ _ _ _ _ wr.drew
        obtain ⟨W0, hW0⟩ : ∃ W0, W0 = wr.drew := ⟨_, rfl⟩
        rw [← hW0]
        have hb0 : Below wr.heap.size wr W0 := by rw [hW0]; exact (Below.refl _ _).drew
        have q0 : X + 1 ≤ wr.heap.size := hXr
        have q0' : wr.heap.size ≤ W0.heap.size := hb0.size
        have Hb0 : Hid (Below (X + 1) wr W0) := hb0.mono q0
        have HF0 := Lib.hid hb0
        have hcX : ∀ w : World, Below (X + 1) wr w → ∀ j, w.cell? ⟨X, j, none⟩ = wr.cell? ⟨X, j, none⟩ := fun w hb j => hb.cell (p := ⟨X, j, none⟩) (Nat.lt_succ_self X)
        have HcX := Lib.hid hcX
        have Hb : Hid (W0.cell? ⟨X, 3, none⟩ = some (.slice va vn vc)) := (hcX W0 Hb0.out 3).trans HK.out.2.1
        clear hb0 hW0 hcX x0 x1 x2 x3
        refine wpAnyZ_take (i := 0) (by simp only [List.getElem?_toArray, List.getElem?_cons_zero]; rfl) (by kernel_rfl) (by kernel_rfl) (by kernel_rfl) (by kernel_rfl) (by intro _ _ _ h; exact h) (Or.inl ⟨by rfl, fun w hw => by (have k0 := hw; go_simp; try rfl)⟩) Hb.out ?_
        refine wpAnyZ_take (i := 1) (by simp only [List.getElem?_toArray, List.getElem?_cons_succ, List.getElem?_cons_zero]; rfl) (by kernel_rfl) (by kernel_rfl) (by kernel_rfl) (by kernel_rfl) (by intro _ _ _ h; exact h) (Or.inl ⟨by rfl, fun w hw => by (have k0 := hw; go_simp; try rfl)⟩) Hb.out ?_
        go_frame
        refine wpAnyZ_next (i := 2) (by kernel_rfl) (by simp only [List.getElem?_toArray, List.getElem?_cons_succ, List.getElem?_cons_zero]; rfl) (fun K hK => ?_)
        go_simp
        refine (number_any 9223372036854775807 W0).mono ?_
        rintro e w6 ⟨rfl, hb6⟩
        have Hb6 : Hid (Below (X + 1) wr w6) := Hb0.out.trans (hb6.mono (by omega))
        have q6 := hb6.size
        have HF6 : Hid (Below wr.heap.size wr w6) := HF0.out.trans (hb6.mono q0')
        clear hb6
        refine hK.out _ _ (fun _ => (HcX.out _ Hb6.out 3).trans HK.out.2.1) ?_
        clear hK K
        try go_frame
        refine wpAnyZ_next (i := 3) (by kernel_rfl) (by simp only [List.getElem?_toArray, List.getElem?_cons_succ, List.getElem?_cons_zero]; rfl) (fun K hK => ?_)
        unfold nilV
        go_simp
        obtain ⟨Z, hZ⟩ : ∃ Z, Z = w6.heap.size := ⟨_, rfl⟩
        obtain ⟨W7, hW7⟩ : ∃ w : World, w = w6.alloc (.cells #[.int .i64 1, .int .i64 9223372036854775807, .string ⟨#[]⟩, .slice none 0 0] 43) := ⟨_, rfl⟩
        rw [← hZ, ← hW7]
        have hb7 : Below w6.heap.size w6 W7 := by rw [hW7]; exact (Below.refl _ _).alloc (Nat.le_refl _) _
        have HZ : Hid ((∀ o u, (exVs argX nilV)[o]? = some u → W7.cell? ⟨Z, o, none⟩ = some u) ∧ Z < W7.heap.size) := ⟨fun o u h => by
          have e : (#[.int .i64 1, .int .i64 9223372036854775807, .string ⟨#[]⟩, .slice none 0 0] : Array Value) = (exVs argX nilV).toArray := rfl
          rw [hW7, World.cell?_alloc_at _ _ _ _ hZ, e, List.getElem?_toArray]
          exact h, by rw [hW7, hZ]; simp⟩
        have Hb7 : Hid (Below (X + 1) wr W7) := Hb6.out.trans (hb7.mono (by omega))
        have q7 := hb7.size
        have HO7 : Hid (W7.ownsRow (X + 1) 43 4 (.slice va vn vc) i (rowsOf argVs i)) := ownsRow_below HK.out.1 (HF6.out.trans (hb7.mono (by omega))) (Nat.le_refl _)
        clear hb7 hZ hW7
        refine hK.out _ _ (fun _ => (HcX.out _ Hb7.out 3).trans HK.out.2.1) ?_
        clear hK K
        try go_frame
        refine wpAnyZ_next (i := 4) (by kernel_rfl) (by simp only [List.getElem?_toArray, List.getElem?_cons_succ, List.getElem?_cons_zero]; rfl) (fun K hK => ?_)
        rw [if_pos (by rfl)]
        have hsrc : SliceIn W7 (.slice (some ⟨Z, 0, none⟩) 1 1) 1 4 (exVs argX nilV) := ⟨rfl, _, _, rfl, Nat.le_refl _, by decide, by simp, fun _ => ⟨_, 0, rfl, HZ.out.2, fun o u h => by rw [Nat.zero_add]; exact HZ.out.1 o u h⟩⟩
        have hone : ∀ u ∈ exVs argX nilV, u.oneCell' = true := fun u hu => List.all_eq_true.1 (show (exVs argX nilV).all Value.oneCell' = true from rfl) u hu
        refine append_any_wp _ _ 41 rfl Try.underlying41 Try.infoExpr rfl (by decide) (X + 1) (.slice va vn vc) i (rowsOf argVs i) rfl HO7.out (.slice (some ⟨Z, 0, none⟩) 1 1) 1 (exVs argX nilV) rfl hsrc hone (by unfold maxLen; omega) (by omega) (by omega) ?_
        intro v8 W8 ho hgr hfr
        clear hsrc hone
        have Hb8 : Hid (Below (X + 1) wr W8) := Hb7.out.trans ((Below.refl (X + 1) W7).grown hgr (by omega) fun k e => (World.ownsRow.lt HO7.out k e).1)
        have q8 := hgr.size
        obtain ⟨g8, c8, rfl, hg8, hg8', hc8⟩ := row_one ho (Nat.succ_pos i)
        have HO8 : Hid (W8.ownsRow (X + 1) 43 4 (.slice (some ⟨g8, 0, none⟩) (i + 1) c8) (i + 1) (rowsOf argVs (i + 1))) := ho
        clear ho hgr hfr
        have h83 := (HcX.out _ Hb8.out 3).trans HK.out.2.1
        refine hK.out _ _ (fun _ => h83) ?_
        clear hK K
        try go_frame
        refine wpAnyZ_next (i := 5) (by kernel_rfl) (by simp only [List.getElem?_toArray, List.getElem?_cons_succ, List.getElem?_cons_zero]; rfl) (fun K hK => ?_)
        go_simp
        refine hK.out _ _ (fun _ => h83) ?_
        clear hK K
        try go_frame
        refine wpAnyZ_next (i := 6) (by kernel_rfl) (by simp only [List.getElem?_toArray, List.getElem?_cons_succ, List.getElem?_cons_zero]; rfl) (fun K hK => ?_)
        have z8 : W8.frozen? ⟨X, 3, none⟩ = false := (Hb8.out.frozen (p := ⟨X, 3, none⟩) (Nat.lt_succ_self X)).trans (HK.out.2.2.1.1 3)
        go_simp
        refine hK.out _ _ (fun h => absurd rfl h) ?_
        clear hK K
        refine wpAnyZ_done (by kernel_rfl) ?_ _
        go_wp2_with fail
        have hO : W8.ownsRow (X + 1) 43 4 (.slice (some ⟨g8, 0, none⟩) (i + 1) c8) (i + 1) (rowsOf argVs (i + 1)) := HO8.out
        have hX8 : X < W8.heap.size := by omega
        go_roundg (k - (i + 1))
        case measure => have := HK.out.2.2.2.2; omega
        case rel =>
          have hs := fun j => (HcX.out _ Hb8.out j)
          have hx := HX.out
          refine ⟨i + 1, _, rfl, by go_num, hik, ownsRow_at hO (Below.heap_setCell _ _ _ _ (by show g8 ≠ X; omega)), ⟨?_, ?_, ?_, World.cell?_setCell_same' _ _ _ (by rw [h83]; rfl)⟩, ⟨fun j => ?_, ?_⟩, ?_⟩
          · rw [World.cell?_setCell_other _ _ _ _ (by intro e; cases e)]; exact (hs 0).trans hx.1
          · rw [World.cell?_setCell_other _ _ _ _ (by intro e; cases e)]; exact (hs 1).trans hx.2.1
          · rw [World.cell?_setCell_other _ _ _ _ (by intro e; cases e)]; exact (hs 2).trans hx.2.2
          · rw [World.frozen?_setCell]; exact (Hb8.out.frozen (p := ⟨X, j, none⟩) (Nat.lt_succ_self X)).trans (HK.out.2.2.1.1 j)
          · rw [World.size_setCell]; exact hX8
          · exact (HK.out.2.2.2.1.trans (Hb8.out.mono (by have := H5.out.2.2.2.2; omega))).setCell (by have := H5.out.2.2.2.2; exact this) _
      · obtain rfl : i = k := by omega
        have c0 := (HK.out.2.2.2.1.cell (p := ⟨B, 0, none⟩) q4).trans Hc.out.1
        have c1 := (HK.out.2.2.2.1.cell (p := ⟨B, 1, none⟩) q4).trans Hc.out.2.1
        have Hpf := Lib.hid (Pg.fault_of_rfault (p := p) (by rw [← Ht.out]))
        have HW := Lib.hid (H4.out.trans (HK.out.2.2.2.1.mono H4.out.size))
        have qB : B < wr.heap.size := Nat.lt_of_lt_of_le q4 HK.out.2.2.2.1.size
        go_upto_region 11 with (fail)
        go_wp2_with fail
        refine (copy_any p (.slice aw m cw) (.slice (some ⟨b, off, none⟩) n cap) vp vb W HP.out (Pg.small_of Hpf.out.1) wr HW.out).mono ?_
        rintro e w6 ⟨v6, rfl, hb6, ho6⟩
        obtain ⟨mid, ogw, ocw, og, ocap, ovp, ovb, oq, om0, om1, ogp, ocp, hv6, -, -, ho⟩ := ho6
        rw [← Hl.out.1, ← Hl.out.2] at hv6
        subst hv6
        have HOwn := Lib.hid ho
        unfold pgV
        obtain ⟨C, hC⟩ : ∃ C, C = w6.heap.size := ⟨_, rfl⟩
        obtain ⟨W7, hW7⟩ : ∃ w : World, w = w6.alloc (.cells #[.slice (some ⟨ogw, 0, none⟩) m ocw, .slice (some ⟨og, 0, none⟩) n ocap] 26) := ⟨_, rfl⟩
        have hb7 : Below w6.heap.size w6 W7 := by rw [hW7]; exact (Below.refl _ _).alloc (Nat.le_refl _) _
        have d0 : W7.cell? ⟨C, 0, none⟩ = some (.slice (some ⟨ogw, 0, none⟩) m ocw) := by rw [hW7, hC]; exact World.cell?_alloc_at _ _ _ _ rfl
        have d1 : W7.cell? ⟨C, 1, none⟩ = some (.slice (some ⟨og, 0, none⟩) n ocap) := by rw [hW7, hC]; exact World.cell?_alloc_at _ _ _ _ rfl
        have q7 : C < W7.heap.size ∧ w6.heap.size ≤ C ∧ C ≤ w6.heap.size := by rw [hW7, hC]; simp
        have z7 : ∀ j, W7.frozen? ⟨C, j, none⟩ = false := fun j => by rw [hW7, hC]; exact World.frozen?_alloc_at _ _ _ _ rfl
        have q6 := hb6.size
        have hb67 : Below wr.heap.size wr W7 := hb6.trans (hb7.mono q6)
        have hog := ho.fns.hg
        have HW7 := Lib.hid (And.intro hW7 hC)
        have H6 := Lib.hid (And.intro hb6 hb7)
        have H7 := Lib.hid (And.intro hb67 (And.intro (And.intro d0 (And.intro d1 z7)) (And.intro ((hb67.cell (p := ⟨B, 0, none⟩) qB).trans c0) ((hb67.cell (p := ⟨B, 1, none⟩) qB).trans c1))))
        have hargs := args_in HK.out.1
        have HA := Lib.hid (hargs.later hb67)
        have hc : ∀ j, W7.cell? ⟨X, j, none⟩ = wr.cell? ⟨X, j, none⟩ := fun j => hb67.cell (p := ⟨X, j, none⟩) hXr
        have Hx7 := Lib.hid (And.intro ((hc 0).trans x0) (And.intro ((hc 1).trans x1) (And.intro ((hc 2).trans x2) ((hc 3).trans x3))))
        have hXw : X < wr.heap.size := hXr
        subst hv
        clear ho hb6 hb7 hW7 hC d0 d1 z7 hb67 hargs hc c0 c1 x0 x1 x2 x3
        go_upto_region 12 with (fail)
        rw [← HW7.out.1, ← HW7.out.2]
        refine wp_region_any rfl ?_
        change wpAny _ _ _ _ _ _ _ W7.drew
        obtain ⟨W0, hW0⟩ : ∃ W0, W0 = W7.drew := ⟨_, rfl⟩
        rw [← hW0]
        have HW0 := Lib.hid hW0
        clear hW0
        refine frameM_of (Φ := fun a => wpAny _ _ _ _ _ _ a W0) (B := B) (C := C) (X := X) (j := j) (k := i) (size := k2) rfl (fun r => ?_)
        refine wpAny_inv (InvM r B C j i W0.heap.size X f.name (.slice va vn vc) k2 W0) ?_ ?_ _ _ _ _ rfl (by decide) ?_
        · intro L a w' q hs hI hi
          obtain ⟨o, ho, hlt, hLi, hall⟩ := ready_spec hi
          obtain ⟨v64, v65, v66, v67, v68, v69, v70, v71, v72, v73, v11, rfl, hI⟩ := hI
          rcases hI with ⟨h10, hR⟩ | ⟨hfull, _⟩
          · have hno : ¬ LetsOut (fun ex a w => ex = .normal ∧ InvM r B C j i W0.heap.size X f.name (.slice va vn vc) k2 W0 (L.setIfInBounds q true) a w) := by rintro ⟨a, w, h, _⟩; cases h
            have hlt2 : q < 12 := hlt
            have hlt3 := hlt
            clear hi hlt
            match q, hlt2 with
            | 0, _ =>
              have ho2 := ho
              simp only [List.getElem?_toArray, List.getElem?_cons_zero, Option.some.injEq] at ho2
              subst ho2
              have HR := Lib.hid hR
              clear hR
              have hf9 : (L.setIfInBounds 0 true).getD 11 false = false := by rw [getD_set_o (by decide)]; exact h10
              refine wpOp_of_list ho ?_ hno
              go_wp2_with fail
              refine (number_any 0 _).mono ?_
              rintro e w1 ⟨rfl, hb1⟩
              have Hb1 := Lib.hid hb1
              clear hb1
              go_wp2_with fail
              exact ⟨_, _, _, _, _, _, _, _, _, _, _, rfl, .inl ⟨hf9, (HR.out.later Hb1.out).set0 rfl⟩⟩
            | 1, _ =>
              have ho2 := ho
              simp only [List.getElem?_toArray, List.getElem?_cons_succ, List.getElem?_cons_zero, Option.some.injEq] at ho2
              subst ho2
              have HR := Lib.hid hR
              clear hR
              have hf9 : (L.setIfInBounds 1 true).getD 11 false = false := by rw [getD_set_o (by decide)]; exact h10
              refine wpOp_of_list ho ?_ hno
              go_wp2_with fail
              refine (number_any 3 _).mono ?_
              rintro e w1 ⟨rfl, hb1⟩
              have Hb1 := Lib.hid hb1
              clear hb1
              go_wp2_with fail
              exact ⟨_, _, _, _, _, _, _, _, _, _, _, rfl, .inl ⟨hf9, (HR.out.later Hb1.out).set1 rfl⟩⟩
            | 2, _ =>
              have ho2 := ho
              simp only [List.getElem?_toArray, List.getElem?_cons_succ, List.getElem?_cons_zero, Option.some.injEq] at ho2
              subst ho2
              obtain ⟨y0, y1, y2, y3⟩ := hR.call
              have HR := Lib.hid hR
              clear hR
              have hf9 : (L.setIfInBounds 2 true).getD 11 false = false := by rw [getD_set_o (by decide)]; exact h10
              refine wpOp_of_list ho ?_ hno
              go_wp2_with fail
              exact ⟨_, _, _, _, _, _, _, _, _, _, _, rfl, .inl ⟨hf9, HR.out.set2 rfl⟩⟩
            | 3, _ =>
              have ho2 := ho
              simp only [List.getElem?_toArray, List.getElem?_cons_succ, List.getElem?_cons_zero, Option.some.injEq] at ho2
              subst ho2
              have d2 : L.getD 2 false = true := hall { on := 2, ground := .data } (by simp) rfl
              obtain rfl := hR.x2 d2
              have HR := Lib.hid hR
              clear hR
              have hf9 : (L.setIfInBounds 3 true).getD 11 false = false := by rw [getD_set_o (by decide)]; exact h10
              refine wpOp_of_list ho ?_ hno
              go_wp2_with fail
              exact ⟨_, _, _, _, _, _, _, _, _, _, _, rfl, .inl ⟨hf9, HR.out.set3 rfl⟩⟩
            | 4, _ =>
              have ho2 := ho
              simp only [List.getElem?_toArray, List.getElem?_cons_succ, List.getElem?_cons_zero, Option.some.injEq] at ho2
              subst ho2
              have d3 : L.getD 3 false = true := hall { on := 3, ground := .data } (by simp) rfl
              obtain rfl := hR.x3 d3
              have HR := Lib.hid hR
              clear hR
              have hf9 : (L.setIfInBounds 4 true).getD 11 false = false := by rw [getD_set_o (by decide)]; exact h10
              refine wpOp_of_list ho ?_ hno
              unfold moreCs
              go_wp2_with fail
              exact ⟨_, _, _, _, _, _, _, _, _, _, _, rfl, .inl ⟨hf9, (HR.out.later ((Below.refl _ _).alloc (Nat.le_refl _) _)).set4 (SB.mk' HR.out.hsz)⟩⟩
            | 5, _ =>
              have ho2 := ho
              simp only [List.getElem?_toArray, List.getElem?_cons_succ, List.getElem?_cons_zero, Option.some.injEq] at ho2
              subst ho2
              have d0 : L.getD 0 false = true := hall { on := 0, ground := .data } (by simp) rfl
              have d1 : L.getD 1 false = true := hall { on := 1, ground := .data } (by simp) rfl
              have d4 : L.getD 4 false = true := hall { on := 4, ground := .data } (by simp) rfl
              obtain rfl := hR.x0 d0
              obtain rfl := hR.x1 d1
              obtain ⟨gs, rfl, s4⟩ := hR.x4 d4
              have S4 := Lib.hid s4
              clear s4
              have HR := Lib.hid hR
              clear hR
              have hf9 : (L.setIfInBounds 5 true).getD 11 false = false := by rw [getD_set_o (by decide)]; exact h10
              refine wpOp_of_list ho ?_ hno
              go_wp2_with fail
              exact ⟨_, _, _, _, _, _, _, _, _, _, _, rfl, .inl ⟨hf9, HR.out.set5 ⟨_, rfl, S4.out⟩⟩⟩
            | 6, _ =>
              have ho2 := ho
              simp only [List.getElem?_toArray, List.getElem?_cons_succ, List.getElem?_cons_zero, Option.some.injEq] at ho2
              subst ho2
              have HR := Lib.hid hR
              clear hR
              have hf9 : (L.setIfInBounds 6 true).getD 11 false = false := by rw [getD_set_o (by decide)]; exact h10
              refine wpOp_of_list ho ?_ hno
              go_wp2_with fail
              exact ⟨_, _, _, _, _, _, _, _, _, _, _, rfl, .inl ⟨hf9, HR.out.set6 rfl⟩⟩
            | 7, _ =>
              have ho2 := ho
              simp only [List.getElem?_toArray, List.getElem?_cons_succ, List.getElem?_cons_zero, Option.some.injEq] at ho2
              subst ho2
              have d6 : L.getD 6 false = true := hall { on := 6, ground := .data } (by simp) rfl
              obtain rfl := hR.x6 d6
              have HR := Lib.hid hR
              clear hR
              have hf9 : (L.setIfInBounds 7 true).getD 11 false = false := by rw [getD_set_o (by decide)]; exact h10
              refine wpOp_of_list ho ?_ hno
              go_wp2_with fail
              exact ⟨_, _, _, _, _, _, _, _, _, _, _, rfl, .inl ⟨hf9, HR.out.set7 rfl⟩⟩
            | 8, _ =>
              have ho2 := ho
              simp only [List.getElem?_toArray, List.getElem?_cons_succ, List.getElem?_cons_zero, Option.some.injEq] at ho2
              subst ho2
              have d5 : L.getD 5 false = true := hall { on := 5, ground := .data } (by simp) rfl
              have d7 : L.getD 7 false = true := hall { on := 7, ground := .data } (by simp) rfl
              obtain ⟨gs, rfl, s5⟩ := hR.x5 d5
              have S5 := Lib.hid s5
              clear s5
              obtain rfl := hR.x7 d7
              have HR := Lib.hid hR
              clear hR
              have hf9 : (L.setIfInBounds 8 true).getD 11 false = false := by rw [getD_set_o (by decide)]; exact h10
              refine wpOp_of_list ho ?_ hno
              unfold moreFs moreAs
              go_wp2_with fail
              exact ⟨_, _, _, _, _, _, _, _, _, _, _, rfl, .inl ⟨hf9, (HR.out.later ((Below.refl _ _).alloc (Nat.le_refl _) _)).set8 (XB.mk' HR.out.hsz S5.out)⟩⟩
            | 9, _ =>
              have ho2 := ho
              simp only [List.getElem?_toArray, List.getElem?_cons_succ, List.getElem?_cons_zero, Option.some.injEq] at ho2
              subst ho2
              have d8 : L.getD 8 false = true := hall { on := 8, ground := .data } (by simp) rfl
              obtain ⟨g, gs, rfl, s8⟩ := hR.x8 d8
              have S8 := Lib.hid s8
              clear s8
              have HR := Lib.hid hR
              clear hR
              have hf9 : (L.setIfInBounds 9 true).getD 11 false = false := by rw [getD_set_o (by decide)]; exact h10
              refine wpOp_of_list ho ?_ hno
              go_wp2_with fail
              exact ⟨_, _, _, _, _, _, _, _, _, _, _, rfl, .inl ⟨hf9, HR.out.set9 ⟨_, _, rfl, S8.out⟩⟩⟩
            | 10, _ =>
              have ho2 := ho
              simp only [List.getElem?_toArray, List.getElem?_cons_succ, List.getElem?_cons_zero, Option.some.injEq] at ho2
              subst ho2
              have HR := Lib.hid hR
              clear hR
              have hf9 : (L.setIfInBounds 10 true).getD 11 false = false := by rw [getD_set_o (by decide)]; exact h10
              refine wpOp_of_list ho ?_ hno
              go_wp2_with fail
              exact ⟨_, _, _, _, _, _, _, _, _, _, _, rfl, .inl ⟨hf9, (HR.out.later ((Below.refl _ _).alloc (Nat.le_refl _) _)).set10 (XM.mk' HR.out.hsz)⟩⟩
            | 11, _ =>
              have ho2 := ho
              simp only [List.getElem?_toArray, List.getElem?_cons_succ, List.getElem?_cons_zero, Option.some.injEq] at ho2
              subst ho2
              have HR := Lib.hid hR
              clear hR
              have d0 : L.getD 0 false = true := hall { on := 0, ground := .phase } (by simp) rfl
              have d1 : L.getD 1 false = true := hall { on := 1, ground := .phase } (by simp) rfl
              have d2 : L.getD 2 false = true := hall { on := 2, ground := .phase } (by simp) rfl
              have d3 : L.getD 3 false = true := hall { on := 3, ground := .phase } (by simp) rfl
              have d4 : L.getD 4 false = true := hall { on := 4, ground := .phase } (by simp) rfl
              have d5 : L.getD 5 false = true := hall { on := 5, ground := .phase } (by simp) rfl
              have d6 : L.getD 6 false = true := hall { on := 6, ground := .phase } (by simp) rfl
              have d7 : L.getD 7 false = true := hall { on := 7, ground := .phase } (by simp) rfl
              have d8 : L.getD 8 false = true := hall { on := 8, ground := .phase } (by simp) rfl
              have d9 : L.getD 9 false = true := hall { on := 9, ground := .phase } (by simp) rfl
              have d10 : L.getD 10 false = true := hall { on := 10, ground := .phase } (by simp) rfl
              have hL : ∀ k, k < 12 → (L.setIfInBounds 11 true).getD k false = true := fun k hk => by
                match k, hk with
                | 0, _ => rw [getD_set_o (by decide)]; exact d0
                | 1, _ => rw [getD_set_o (by decide)]; exact d1
                | 2, _ => rw [getD_set_o (by decide)]; exact d2
                | 3, _ => rw [getD_set_o (by decide)]; exact d3
                | 4, _ => rw [getD_set_o (by decide)]; exact d4
                | 5, _ => rw [getD_set_o (by decide)]; exact d5
                | 6, _ => rw [getD_set_o (by decide)]; exact d6
                | 7, _ => rw [getD_set_o (by decide)]; exact d7
                | 8, _ => rw [getD_set_o (by decide)]; exact d8
                | 9, _ => rw [getD_set_o (by decide)]; exact d9
                | 10, _ => rw [getD_set_o (by decide)]; exact d10
                | 11, _ => rw [Array.getD_eq_getD_getElem?, Array.getElem?_setIfInBounds_self_of_lt (by rw [hs]; exact hlt3)]; rfl
                | k + 12, h => exact absurd h (by omega)
              obtain ⟨mm, rfl, hm⟩ := HR.out.x10 d10
              obtain ⟨g, gs, rfl, sM⟩ := HR.out.x9 d9
              have SM := Lib.hid sM
              clear sM
              obtain ⟨n0, n1, n2, z0, z1, z2⟩ := hm.cells3
              have Hm := Lib.hid hm
              clear hm
              refine wpOp_of_list ho ?_ hno
              unfold nilV at n1 n2 ⊢
              go_wp2_with fail
              exact ⟨_, _, _, _, _, _, _, _, _, _, _, rfl, .inr ⟨hL, XD.mk' Hm.out SM.out, ((HR.out.below.setCell Hm.out.1 _).setCell Hm.out.1 _).setCell Hm.out.1 _⟩⟩
          · have := hfull q (by have : q < 12 := hlt; exact this)
            rw [Array.getD_eq_getD_getElem?] at this hLi
            cases h : L[q]? with
            | none => rw [h] at this; cases this
            | some b => rw [h] at this hLi; simp at this hLi; rw [this] at hLi; cases hLi
        · intro L a w' hs hI hr
          have hall := all_listed hs (by kernel_rfl) hr
          obtain ⟨v64, v65, v66, v67, v68, v69, v70, v71, v72, v73, v11, rfl, hI⟩ := hI
          rcases hI with ⟨h10, _⟩ | ⟨_, hM, hb⟩
          · have := hall 11 (by decide)
            rw [h10] at this; cases this
          · obtain ⟨mm, gg, gs, rfl, hm, hx1, hx2⟩ := hM
            have hb7' : Below W7.heap.size W7 w' := by
              have h0 : Below W7.heap.size W7 W0 := by rw [HW0.out]; exact (Below.refl _ _).drew
              exact h0.trans (hb.mono h0.size)
            have hs0 : W0.heap.size = W7.heap.size := by rw [HW0.out]; rfl
            have m0 := hm.cell 0
            have m1 := hm.cell 1
            have m2 := hm.cell 2
            obtain ⟨W8, hW8⟩ : ∃ w : World, w = w'.alloc (.cells #[.string nameZ, nilV, .slice (some ⟨gg, 0, none⟩) 2 2] 40) := ⟨_, rfl⟩
            have hb8 : Below w'.heap.size w' W8 := by rw [hW8]; exact (Below.refl _ _).alloc (Nat.le_refl _) _
            have q7' := hb7'.size
            have q8 := hb8.size
            have hb78 : Below W7.heap.size W7 W8 := hb7'.trans (hb8.mono q7')
            have hb68 : Below w6.heap.size w6 W8 := H6.out.2.trans (hb78.mono (by omega))
            have d0 := (hb7'.cell (p := ⟨C, 0, none⟩) q7.1).trans H7.out.2.1.1
            have d1 := (hb7'.cell (p := ⟨C, 1, none⟩) q7.1).trans H7.out.2.1.2.1
            have hn' : p.funcs.length = n := Hl.out.2.symm
            have hmid := HOwn.out.fns.hg
            have hmw := HOwn.out.hw
            have HO8 : Hid (W8.ownsRow mid 40 3 (.slice (some ⟨og, 0, none⟩) n ocap) n (rowsOf (fnRow p.funcs ovp ovb) n)) := by
              have h0 := HOwn.out.fns.own
              rw [hn'] at h0
              exact ownsRow_at (fns_cut h0 (by rw [← hn']; exact rowsOf_len _ (fnRow_len p.funcs ovp ovb))) (hb68.block og hmid.2)
            have hsrc : SliceIn W8 (.slice (some ⟨w'.heap.size, 0, none⟩) 1 1) 1 3 [.string nameZ, .slice none 0 0, .slice (some ⟨gg, 0, none⟩) 2 2] := by
              rw [hW8]
              exact sliceIn_new w' [.string nameZ, .slice none 0 0, .slice (some ⟨gg, 0, none⟩) 2 2] 1 3 40 rfl (by decide)
            have hone : ∀ u ∈ ([.string nameZ, .slice none 0 0, .slice (some ⟨gg, 0, none⟩) 2 2] : List Value), u.oneCell' = true := fun u hu => List.all_eq_true.1 (show ([.string nameZ, .slice none 0 0, .slice (some ⟨gg, 0, none⟩) 2 2] : List Value).all Value.oneCell' = true from rfl) u hu
            have Hsrc := Lib.hid (And.intro hsrc hone)
            have HX := Lib.hid (And.intro (hx1.later hb8) (hx2.later hb8))
            have H8 := Lib.hid (And.intro hb78 (And.intro hb68 hb8))
            have hCog : C ≠ og := by omega
            have hC8 : C < W8.heap.size := by omega
            have HW8 := Lib.hid hW8
            unfold nilV at HW8 m1
            clear hm hx1 hx2 hb hall hr hs hb8 hb78 hb68 hsrc hone hW8 hb7'
            show _
            go_upto_region 13 with (fail)
            go_wp2_with (at_builtin; rw [← HW8.out]; refine append_gen rfl _ _ 24 rfl Try.underlying24 Try.infoFn rfl (by decide) mid (.slice (some ⟨og, 0, none⟩) n ocap) n (rowsOf (fnRow p.funcs ovp ovb) n) rfl HO8.out _ 1 [.string nameZ, .slice none 0 0, .slice (some ⟨gg, 0, none⟩) 2 2] rfl Hsrc.out.1 Hsrc.out.2 (by unfold maxLen; omega) (by omega) (by omega) ?_; intro v9 w9 ho9 hgr9 hfr9 hbl9; obtain ⟨g9, c9, rfl, hg9, hg9', hc9⟩ := row_one ho9 (Nat.succ_pos n); have HA9 := Lib.hid (And.intro ho9 (And.intro hgr9 hfr9)); have k9 : w9.heap[C]? = W8.heap[C]? := hgr9.block C hC8 (by intro e; cases e; exact hCog rfl); clear d0 d1; have d0 : w9.cell? ⟨C, 0, none⟩ = some (.slice (some ⟨ogw, 0, none⟩) m ocw) := (World.cell?_of_block k9).trans ((H8.out.1.cell (p := ⟨C, 0, none⟩) q7.1).trans H7.out.2.1.1); have d1 : w9.cell? ⟨C, 1, none⟩ = some (.slice (some ⟨og, 0, none⟩) n ocap) := (World.cell?_of_block k9).trans ((H8.out.1.cell (p := ⟨C, 1, none⟩) q7.1).trans H7.out.2.1.2.1); have z9 : w9.frozen? ⟨C, 1, none⟩ = false := (World.frozen?_of_block k9).trans ((H8.out.1.frozen (p := ⟨C, 1, none⟩) q7.1).trans (H7.out.2.1.2.2 1)); clear ho9 hgr9 hfr9 hbl9 k9 m0 m1 m2)
            obtain ⟨W10, hW10⟩ : ∃ w : World, w = w9.setCell ⟨C, 1, none⟩ (.slice (some ⟨g9, 0, none⟩) (n + 1) c9) := ⟨_, rfl⟩
            rw [← hW10]
            obtain ⟨ho9, hgr9, hfr9⟩ := HA9.out
            have hs9 := hgr9.size
            have hs10 : W10.heap.size = w9.heap.size := by rw [hW10]; exact World.size_setCell _ _ _
            have hgC : g9 ≠ C := fun e => by
              refine hfr9 C hC8 (fun h => ?_) (by rw [e]; rfl)
              simp [Value.ownBlock] at h
              exact hCog h.symm
            have k10 : ∀ k, k ≠ C → W10.heap[k]? = w9.heap[k]? := fun k hk => by rw [hW10]; exact Below.heap_setCell _ _ _ _ hk
            have k810 : ∀ k, k < W8.heap.size → k ≠ C → k ≠ og → W10.heap[k]? = W8.heap[k]? := fun k h1 h2 h3 => (k10 k h2).trans (hgr9.block k h1 (by intro e; cases e; exact h3 rfl))
            have k610 : ∀ k, k < w6.heap.size → k ≠ og → W10.heap[k]? = w6.heap[k]? := fun k h1 h2 => (k810 k (by omega) (by omega) h2).trans (H8.out.2.1.block k h1)
            have hos : W10.os = w9.os ∧ W10.tape = w9.tape ∧ W10.output = w9.output := by rw [hW10]; exact ⟨rfl, rfl, rfl⟩
            have hb10 : Below wr.heap.size wr W10 := by
              have h1 : Below wr.heap.size wr W8 := H7.out.1.trans (H8.out.1.mono (by omega))
              have h2 : Below wr.heap.size wr w9 := h1.grown hgr9 (by omega) fun k e => by
                simp [Value.ownBlock] at e
                omega
              rw [hW10]
              exact h2.setCell (by show wr.heap.size ≤ C; omega) _
            have e0 : W10.cell? ⟨C, 0, none⟩ = some (.slice (some ⟨ogw, 0, none⟩) m ocw) := by rw [hW10, World.cell?_setCell_other _ _ _ _ (by intro e; cases e)]; exact d0
            have e1 : W10.cell? ⟨C, 1, none⟩ = some (.slice (some ⟨g9, 0, none⟩) (n + 1) c9) := by rw [hW10]; exact World.cell?_setCell_same' _ _ _ (by rw [d1]; rfl)
            have hbl1 : Blk W0.heap.size W10 gg (moreBs gs k2) 48 := ⟨HX.out.1.1, (k810 gg HX.out.1.lt (by have := HX.out.1.1; omega) (by have := HX.out.1.1; omega)).trans HX.out.1.2⟩
            have hbl2 : Blk W0.heap.size W10 gs (moreCs f.name (.slice va vn vc)) 48 := ⟨HX.out.2.1, (k810 gs HX.out.2.lt (by have := HX.out.2.1; omega) (by have := HX.out.2.1; omega)).trans HX.out.2.2⟩
            have hbd : StsIn W10 (moreB f.name i k2) (.slice (some ⟨gg, 0, none⟩) 2 2) := moreB_in hbl1 hbl2 ((args_in HK.out.1).later hb10)
            have hq := more_in (w' := W10) (f := moreFn f.name i k2) (lo2 := mid) (v' := .slice (some ⟨g9, 0, none⟩) (n + 1) c9) (vp' := nilV) (vb' := .slice (some ⟨gg, 0, none⟩) 2 2) HOwn.out (by omega) k610 (by rw [hn']; exact ownsRow_at ho9 (k10 g9 hgC)) (rowOf_nil _ _ _) hbd
            rw [show p.widen.length = m from Hl.out.1.symm] at hq
            have HQ := Lib.hid (And.intro hb10 (And.intro hq (more_rng (s := f.name) (k := i) Hrg.out Hk.out.2.2)))
            have q10B : B < W10.heap.size := Nat.lt_of_lt_of_le qB hb10.size
            have q10C : C < W10.heap.size := by omega
            have q4' : b < wr.heap.size := Nat.lt_of_lt_of_le Hg.out.2.2 HK.out.2.2.2.1.size
            have H10 := Lib.hid (And.intro ((hb10.cell (p := ⟨B, 0, none⟩) qB).trans (H7.out.2.2.1 ▸ (H7.out.1.cell (p := ⟨B, 0, none⟩) qB).symm)) (And.intro ((hb10.cell (p := ⟨B, 1, none⟩) qB).trans (H7.out.2.2.2 ▸ (H7.out.1.cell (p := ⟨B, 1, none⟩) qB).symm)) (And.intro e0 (And.intro e1 (((hb10.cell (p := ⟨b, _, none⟩) q4').trans (HK.out.2.2.2.1.cell (p := ⟨b, _, none⟩) Hg.out.2.2)).trans Hg.out.2.1)))))
            clear ho9 hgr9 hfr9 hs9 hgC k10 k810 k610 hos hb10 e0 e1 hbl1 hbl2 hbd hq hW10 d0 d1 z9
            refine (rgCheck_any (p.more (moreFn f.name i k2)) _ _ _ _ W10 HQ.out.2.1 HQ.out.2.2).mono ?_
            rintro e w11 ⟨rfl, hb11⟩
            obtain ⟨t, ht2⟩ : ∃ t, t = (p.more (moreFn f.name i k2)).rfault := ⟨_, rfl⟩
            rw [← ht2]
            have Hr := Lib.hid ht2
            obtain ⟨fa, fb, fc⟩ := t
            unfold fltV
            have q11 := hb11.size
            obtain ⟨F, hF⟩ : ∃ F, F = w11.heap.size := ⟨_, rfl⟩
            obtain ⟨W12, hW12⟩ : ∃ w : World, w = w11.alloc (.cells #[.int .i64 fa, .int .i64 fb, .int .i64 fc] 29) := ⟨_, rfl⟩
            have hb12 : Below w11.heap.size w11 W12 := by rw [hW12]; exact (Below.refl _ _).alloc (Nat.le_refl _) _
            have q12 : F < W12.heap.size ∧ w11.heap.size ≤ F ∧ F ≤ w11.heap.size := by rw [hW12, hF]; simp
            have f0 : W12.cell? ⟨F, 0, none⟩ = some (.int .i64 fa) := by rw [hW12, hF]; exact World.cell?_alloc_at _ _ _ _ rfl
            have f1 : W12.cell? ⟨F, 1, none⟩ = some (.int .i64 fb) := by rw [hW12, hF]; exact World.cell?_alloc_at _ _ _ _ rfl
            have f2 : W12.cell? ⟨F, 2, none⟩ = some (.int .i64 fc) := by rw [hW12, hF]; exact World.cell?_alloc_at _ _ _ _ rfl
            obtain ⟨D, hD⟩ : ∃ D, D = W12.heap.size := ⟨_, rfl⟩
            obtain ⟨W13, hW13⟩ : ∃ w : World, w = W12.alloc (.cells #[.int .i64 0, .int .i64 0, .int .i64 0] 29) := ⟨_, rfl⟩
            have hb13 : Below W12.heap.size W12 W13 := by rw [hW13]; exact (Below.refl _ _).alloc (Nat.le_refl _) _
            have g0 : W13.cell? ⟨D, 0, none⟩ = some (.int .i64 0) := by rw [hW13, hD]; exact World.cell?_alloc_at _ _ _ _ rfl
            have g1 : W13.cell? ⟨D, 1, none⟩ = some (.int .i64 0) := by rw [hW13, hD]; exact World.cell?_alloc_at _ _ _ _ rfl
            have g2 : W13.cell? ⟨D, 2, none⟩ = some (.int .i64 0) := by rw [hW13, hD]; exact World.cell?_alloc_at _ _ _ _ rfl
            have gz : ∀ j, W13.frozen? ⟨D, j, none⟩ = false := fun j => by rw [hW13, hD]; exact World.frozen?_alloc_at _ _ _ _ rfl
            have q13 : D < W13.heap.size ∧ F < D ∧ W10.heap.size ≤ D := by rw [hW13, hD]; simp; omega
            have hb1013 : Below W10.heap.size W10 W13 := hb11.trans ((hb12.trans (hb13.mono hb12.size)).mono q11)
            have HW12 := Lib.hid (And.intro hW12 hF)
            have HW13 := Lib.hid (And.intro hW13 hD)
            have H13 := Lib.hid (And.intro hb1013 (And.intro ((hb13.cell (p := ⟨F, 0, none⟩) q12.1).trans f0) (And.intro ((hb13.cell (p := ⟨F, 1, none⟩) q12.1).trans f1) ((hb13.cell (p := ⟨F, 2, none⟩) q12.1).trans f2))))
            have HG := Lib.hid (And.intro g0 (And.intro g1 (And.intro g2 gz)))
            have Hlaw := Lib.hid (arity_law (p := p) (j := j) (f := f) (k := i) (size := k2) Hf.out.1 (by rw [← Ht.out]) (by omega) Ht4.out (by omega))
            have c0 := (hb1013.cell (p := ⟨B, 0, none⟩) q10B).trans H10.out.1
            have c1 := (hb1013.cell (p := ⟨B, 1, none⟩) q10B).trans H10.out.2.1
            have q410 : b < W10.heap.size := by have := HQ.out.1.size; omega
            have gp := (hb1013.cell (p := ⟨b, _, none⟩) q410).trans H10.out.2.2.2.2
            have h64 : -9223372036854775808 ≤ k2 ∧ k2 ≤ 9223372036854775807 := Hk.out.2.2
            clear ht2 hb11 hF hW12 hb12 f0 f1 f2 hD hW13 hb13 hb1013 g0 g1 g2 gz
            go_upto_region 15 with (fail)
            rw [← HW12.out.1, ← HW12.out.2]
            go_upto_region 16 with (fail)
            rw [← HW13.out.1, ← HW13.out.2]
            obtain ⟨g0, g1, g2, gz⟩ := HG.out
            have gz0 := gz 0
            have gz1 := gz 1
            have gz2 := gz 2
            clear gz
            by_cases h1 : k2 < 0
            · --<E
              have hd : decide (k2 < 0) = true := by simpa using h1
              go_upto_region 22 with (fail)
              clear g0 g1 g2 gz0 gz1 gz2 gp c0 c1
              obtain ⟨W14, hW14⟩ : ∃ w : World, w = ((W13.setCell ⟨D, 0, none⟩ (.int .i64 1)).setCell ⟨D, 1, none⟩ (.int .i64 (n : Int))).setCell ⟨D, 2, none⟩ (.int .i64 3) := ⟨_, rfl⟩
              rw [← hW14]
              have h3 := set3 (a := .int .i64 1) (b := .int .i64 (n : Int)) (c := .int .i64 3) HG.out.1 HG.out.2.1 HG.out.2.2.1
              rw [← hW14] at h3
              clear hW14
              obtain ⟨hb14, hg0, hg1, hg2⟩ := h3
              have hb1014 : Below W10.heap.size W10 W14 := H13.out.1.trans (hb14.mono q13.2.2)
              have f0 := (hb14.cell (p := ⟨F, 0, none⟩) q13.2.1).trans H13.out.2.1
              have f1 := (hb14.cell (p := ⟨F, 1, none⟩) q13.2.1).trans H13.out.2.2.1
              have f2 := (hb14.cell (p := ⟨F, 2, none⟩) q13.2.1).trans H13.out.2.2.2
              have d0 := (hb1014.cell (p := ⟨C, 0, none⟩) q10C).trans H10.out.2.2.1
              have d1 := (hb1014.cell (p := ⟨C, 1, none⟩) q10C).trans H10.out.2.2.2.1
              have c0 := (hb1014.cell (p := ⟨B, 0, none⟩) q10B).trans H10.out.1
              have c1 := (hb1014.cell (p := ⟨B, 1, none⟩) q10B).trans H10.out.2.1
              have q14 := hb1014.size
              have q14D : D < W14.heap.size := Nat.lt_of_lt_of_le q13.1 hb14.size
              have H14 := Lib.hid hb1014
              clear hb1014 hb14
              go_wp2_with fail
              refine (ncheck_any (p.more (moreFn f.name i k2)) _ _ _ _ W14 (HQ.out.2.1.later H14.out)).mono ?_
              rintro e w15 ⟨rfl, hb15⟩
              obtain ⟨u, hu⟩ : ∃ u, u = (p.more (moreFn f.name i k2)).nfault := ⟨_, rfl⟩
              rw [← hu]
              have Hu := Lib.hid hu
              obtain ⟨xa, xb, xc⟩ := u
              unfold fltV
              have q14F : F < W14.heap.size ∧ B < W14.heap.size ∧ C < W14.heap.size := by omega
              rw [← hb15.cell (p := ⟨F, _, none⟩) q14F.1] at f0 f1 f2
              rw [← hb15.cell (p := ⟨B, _, none⟩) q14F.2.1] at c0 c1
              rw [← hb15.cell (p := ⟨C, _, none⟩) q14F.2.2] at d0 d1
              rw [← hb15.cell (p := ⟨D, _, none⟩) q14D] at hg0 hg1 hg2
              have q15 := hb15.size
              have H15 := Lib.hid (H14.out.trans (hb15.mono q14))
              have HW15 := Lib.hid (HW.out.trans ((HQ.out.1.trans (H15.out.mono HQ.out.1.size)).mono HW.out.size))
              clear hu hb15
              by_cases hx : xa = 9
              · subst hx
                go_wp2_with fail
                go_ret
                exact ⟨rfl, HW15.out⟩
              have hlaw : (fa, fb, fc) = wantT n np i k2 := by
                rcases Hlaw.out with h | ⟨_, h⟩
                · rw [← Hu.out] at h; exact absurd h hx
                · rw [Hr.out, h, ← Hf.out.2, ← Hl.out.2]
              have hw : wantT n np i k2 = (1, (n : Int), 3) := by unfold wantT; rw [if_pos (by omega)]
              rw [hw] at hlaw
              simp only [Prod.mk.injEq] at hlaw
              obtain ⟨rfl, rfl, rfl⟩ := hlaw
              clear hw Hlaw
              go_upto_region 26 with (fail)
              obtain ⟨B0, hBe⟩ : ∃ B0, B0 = w15.heap.size := ⟨_, rfl⟩
              refine wp_region_held (S := Below B0 w15.drew) rfl ?_
              change wpAnyH _ _ _ _ (Below B0 w15.drew) _ _ _ w15.drew
              obtain ⟨W16, hW16⟩ : ∃ W0, W0 = w15.drew := ⟨_, rfl⟩
              rw [← hW16]
              have hb16 : Below w15.heap.size w15 W16 := by rw [hW16]; exact (Below.refl _ _).drew
              have q16F : F < w15.heap.size ∧ B < w15.heap.size ∧ C < w15.heap.size := by omega
              have Hfc : Hid (∀ W', Below B0 W16 W' → W'.cell? ⟨B, 0, none⟩ = some (.slice aw m cw) ∧ W'.cell? ⟨B, 1, none⟩ = some (.slice (some ⟨b, off, none⟩) n cap) ∧ W'.cell? ⟨C, 0, none⟩ = some (.slice (some ⟨ogw, 0, none⟩) m ocw) ∧ W'.cell? ⟨C, 1, none⟩ = some (.slice (some ⟨g9, 0, none⟩) (n + 1) c9) ∧ W'.cell? ⟨F, 0, none⟩ = some (.int .i64 1)) := fun W' hb => by
                have hb2 : Below w15.heap.size w15 W' := hb16.trans (by rw [hBe] at hb; exact hb)
                exact ⟨(hb2.cell (p := ⟨B, 0, none⟩) q16F.2.1).trans c0, (hb2.cell (p := ⟨B, 1, none⟩) q16F.2.1).trans c1, (hb2.cell (p := ⟨C, 0, none⟩) q16F.2.2).trans d0, (hb2.cell (p := ⟨C, 1, none⟩) q16F.2.2).trans d1, (hb2.cell (p := ⟨F, 0, none⟩) q16F.1).trans f0⟩
              have Hw16 : Hid (∀ W', Below B0 W16 W' → Below W.heap.size W W' ∧ Below W10.heap.size W10 W') := fun W' hb => by
                have hb2 : Below w15.heap.size w15 W' := hb16.trans (by rw [hBe] at hb; exact hb)
                exact ⟨HW15.out.trans (hb2.mono HW15.out.size), H15.out.trans (hb2.mono H15.out.size)⟩
              have Hb16 : Hid (Below B0 W16 W16) := Below.refl _ _
              have hB16 : B0 ≤ W16.heap.size := by rw [hBe]; exact hb16.size
              clear hb16 hW16 hBe c0 c1 d0 d1 f0 f1 f2 hg0 hg1 hg2
              refine wpAnyH_take (i := 0) (by simp only [List.getElem?_toArray, List.getElem?_cons_zero]; rfl) (by kernel_rfl) (by kernel_rfl) (by kernel_rfl) (by intro _ _ _ h; exact h) (Or.inl ⟨by rfl, fun w hw => by (obtain ⟨c0, c1, d0, d1, f0⟩ := Hfc.out w hw; go_simp; try rfl)⟩) Hb16.out ?_
              refine wpAnyH_take (i := 1) (by simp only [List.getElem?_toArray, List.getElem?_cons_succ, List.getElem?_cons_zero]; rfl) (by kernel_rfl) (by kernel_rfl) (by kernel_rfl) (by intro _ _ _ h; exact h) (Or.inl ⟨by rfl, fun w hw => by (obtain ⟨c0, c1, d0, d1, f0⟩ := Hfc.out w hw; go_simp; try rfl)⟩) Hb16.out ?_
              go_frame
              refine wpAnyH_take (i := 2) (by simp only [List.getElem?_toArray, List.getElem?_cons_succ, List.getElem?_cons_zero]; rfl) (by kernel_rfl) (by kernel_rfl) (by kernel_rfl) (by intro _ _ _ h; exact h) (Or.inl ⟨by rfl, fun w hw => by (obtain ⟨c0, c1, d0, d1, f0⟩ := Hfc.out w hw; go_simp; try rfl)⟩) Hb16.out ?_
              refine wpAnyH_take (i := 3) (by simp only [List.getElem?_toArray, List.getElem?_cons_succ, List.getElem?_cons_zero]; rfl) (by kernel_rfl) (by kernel_rfl) (by kernel_rfl) (by intro _ _ _ h; exact h) (Or.inl ⟨by rfl, fun w hw => by (obtain ⟨c0, c1, d0, d1, f0⟩ := Hfc.out w hw; go_simp; try rfl)⟩) Hb16.out ?_
              go_frame
              refine wpAnyH_take (i := 4) (by simp only [List.getElem?_toArray, List.getElem?_cons_succ, List.getElem?_cons_zero]; rfl) (by kernel_rfl) (by kernel_rfl) (by kernel_rfl) (by intro _ _ _ h; exact h) (Or.inr ⟨by go_simp, rfl⟩) Hb16.out ?_
              refine wpAnyH_take (i := 5) (by simp only [List.getElem?_toArray, List.getElem?_cons_succ, List.getElem?_cons_zero]; rfl) (by kernel_rfl) (by kernel_rfl) (by kernel_rfl) (by intro _ _ _ h; exact h) (Or.inr ⟨by go_simp, rfl⟩) Hb16.out ?_
              try go_frame
              refine wpAnyH_take (i := 6) (by simp only [List.getElem?_toArray, List.getElem?_cons_succ, List.getElem?_cons_zero]; rfl) (by kernel_rfl) (by kernel_rfl) (by kernel_rfl) (by intro _ _ _ h; exact h) (Or.inr ⟨by go_simp, rfl⟩) Hb16.out ?_
              refine wpAnyH_take (i := 7) (by simp only [List.getElem?_toArray, List.getElem?_cons_succ, List.getElem?_cons_zero]; rfl) (by kernel_rfl) (by kernel_rfl) (by kernel_rfl) (by intro _ _ _ h; exact h) (Or.inr ⟨by go_simp, rfl⟩) Hb16.out ?_
              try go_frame
              refine wpAnyH_take (i := 8) (by simp only [List.getElem?_toArray, List.getElem?_cons_succ, List.getElem?_cons_zero]; rfl) (by kernel_rfl) (by kernel_rfl) (by kernel_rfl) (by intro _ _ _ h; exact h) (Or.inr ⟨by go_simp, rfl⟩) Hb16.out ?_
              refine wpAnyH_take (i := 9) (by simp only [List.getElem?_toArray, List.getElem?_cons_succ, List.getElem?_cons_zero]; rfl) (by kernel_rfl) (by kernel_rfl) (by kernel_rfl) (by intro _ _ _ h; exact h) (Or.inr ⟨by go_simp, rfl⟩) Hb16.out ?_
              try go_frame
              refine wpAnyH_take (i := 10) (by simp only [List.getElem?_toArray, List.getElem?_cons_succ, List.getElem?_cons_zero]; rfl) (by kernel_rfl) (by kernel_rfl) (by kernel_rfl) (by intro _ _ _ h; exact h) (Or.inr ⟨by go_simp, rfl⟩) Hb16.out ?_
              refine wpAnyH_take (i := 11) (by simp only [List.getElem?_toArray, List.getElem?_cons_succ, List.getElem?_cons_zero]; rfl) (by kernel_rfl) (by kernel_rfl) (by kernel_rfl) (by intro _ _ _ h; exact h) (Or.inr ⟨by go_simp, rfl⟩) Hb16.out ?_
              try go_frame
              refine wpAnyH_take (i := 12) (by simp only [List.getElem?_toArray, List.getElem?_cons_succ, List.getElem?_cons_zero]; rfl) (by kernel_rfl) (by kernel_rfl) (by kernel_rfl) (by intro _ _ _ h; exact h) (Or.inr ⟨by go_simp, rfl⟩) Hb16.out ?_
              try go_frame
              refine wpAnyH_take (i := 13) (by simp only [List.getElem?_toArray, List.getElem?_cons_succ, List.getElem?_cons_zero]; rfl) (by kernel_rfl) (by kernel_rfl) (by kernel_rfl) (by intro _ _ _ h; exact h) (Or.inl ⟨by rfl, fun w hw => by (skip; go_simp; try rfl)⟩) Hb16.out ?_
              go_frame
              refine wpAnyH_take (i := 14) (by simp only [List.getElem?_toArray, List.getElem?_cons_succ, List.getElem?_cons_zero]; rfl) (by kernel_rfl) (by kernel_rfl) (by kernel_rfl) (by intro _ _ _ h; exact h) (Or.inl ⟨by rfl, fun w hw => by (skip; go_simp; try rfl)⟩) Hb16.out ?_
              go_frame
              try go_frame
              refine wpAnyH_done (by kernel_rfl) ?_ _
              go_wp2_with fail
              go_ret
              exact ⟨by rfl, (Hw16.out _ Hb16.out).1⟩
              --E>
            have hd : decide (k2 < 0) = false := by simpa using h1
            by_cases h2 : i = np
            · have hd2 : ((i : Int) == (np : Int)) = true := by subst h2; simp
              by_cases h3 : k2 < 1
              · --<F
                have hd3 : decide (k2 < 1) = true := by simpa using h3
                go_upto_region 22 with (fail)
                clear g0 g1 g2 gz0 gz1 gz2 gp c0 c1
                obtain ⟨W14, hW14⟩ : ∃ w : World, w = ((W13.setCell ⟨D, 0, none⟩ (.int .i64 1)).setCell ⟨D, 1, none⟩ (.int .i64 (n : Int))).setCell ⟨D, 2, none⟩ (.int .i64 3) := ⟨_, rfl⟩
                rw [← hW14]
                have h3 := set3 (a := .int .i64 1) (b := .int .i64 (n : Int)) (c := .int .i64 3) HG.out.1 HG.out.2.1 HG.out.2.2.1
                rw [← hW14] at h3
                clear hW14
                obtain ⟨hb14, hg0, hg1, hg2⟩ := h3
                have hb1014 : Below W10.heap.size W10 W14 := H13.out.1.trans (hb14.mono q13.2.2)
                have f0 := (hb14.cell (p := ⟨F, 0, none⟩) q13.2.1).trans H13.out.2.1
                have f1 := (hb14.cell (p := ⟨F, 1, none⟩) q13.2.1).trans H13.out.2.2.1
                have f2 := (hb14.cell (p := ⟨F, 2, none⟩) q13.2.1).trans H13.out.2.2.2
                have d0 := (hb1014.cell (p := ⟨C, 0, none⟩) q10C).trans H10.out.2.2.1
                have d1 := (hb1014.cell (p := ⟨C, 1, none⟩) q10C).trans H10.out.2.2.2.1
                have c0 := (hb1014.cell (p := ⟨B, 0, none⟩) q10B).trans H10.out.1
                have c1 := (hb1014.cell (p := ⟨B, 1, none⟩) q10B).trans H10.out.2.1
                have q14 := hb1014.size
                have q14D : D < W14.heap.size := Nat.lt_of_lt_of_le q13.1 hb14.size
                have H14 := Lib.hid hb1014
                clear hb1014 hb14
                go_wp2_with fail
                refine (ncheck_any (p.more (moreFn f.name i k2)) _ _ _ _ W14 (HQ.out.2.1.later H14.out)).mono ?_
                rintro e w15 ⟨rfl, hb15⟩
                obtain ⟨u, hu⟩ : ∃ u, u = (p.more (moreFn f.name i k2)).nfault := ⟨_, rfl⟩
                rw [← hu]
                have Hu := Lib.hid hu
                obtain ⟨xa, xb, xc⟩ := u
                unfold fltV
                have q14F : F < W14.heap.size ∧ B < W14.heap.size ∧ C < W14.heap.size := by omega
                rw [← hb15.cell (p := ⟨F, _, none⟩) q14F.1] at f0 f1 f2
                rw [← hb15.cell (p := ⟨B, _, none⟩) q14F.2.1] at c0 c1
                rw [← hb15.cell (p := ⟨C, _, none⟩) q14F.2.2] at d0 d1
                rw [← hb15.cell (p := ⟨D, _, none⟩) q14D] at hg0 hg1 hg2
                have q15 := hb15.size
                have H15 := Lib.hid (H14.out.trans (hb15.mono q14))
                have HW15 := Lib.hid (HW.out.trans ((HQ.out.1.trans (H15.out.mono HQ.out.1.size)).mono HW.out.size))
                clear hu hb15
                by_cases hx : xa = 9
                · subst hx
                  go_wp2_with fail
                  go_ret
                  exact ⟨rfl, HW15.out⟩
                have hlaw : (fa, fb, fc) = wantT n np i k2 := by
                  rcases Hlaw.out with h | ⟨_, h⟩
                  · rw [← Hu.out] at h; exact absurd h hx
                  · rw [Hr.out, h, ← Hf.out.2, ← Hl.out.2]
                have hw : wantT n np i k2 = (1, (n : Int), 3) := by unfold wantT; rw [if_neg (by omega), if_neg (by omega), if_pos (by omega)]
                rw [hw] at hlaw
                simp only [Prod.mk.injEq] at hlaw
                obtain ⟨rfl, rfl, rfl⟩ := hlaw
                clear hw Hlaw
                go_upto_region 26 with (fail)
                obtain ⟨B0, hBe⟩ : ∃ B0, B0 = w15.heap.size := ⟨_, rfl⟩
                refine wp_region_held (S := Below B0 w15.drew) rfl ?_
                change wpAnyH _ _ _ _ (Below B0 w15.drew) _ _ _ w15.drew
                obtain ⟨W16, hW16⟩ : ∃ W0, W0 = w15.drew := ⟨_, rfl⟩
                rw [← hW16]
                have hb16 : Below w15.heap.size w15 W16 := by rw [hW16]; exact (Below.refl _ _).drew
                have q16F : F < w15.heap.size ∧ B < w15.heap.size ∧ C < w15.heap.size := by omega
                have Hfc : Hid (∀ W', Below B0 W16 W' → W'.cell? ⟨B, 0, none⟩ = some (.slice aw m cw) ∧ W'.cell? ⟨B, 1, none⟩ = some (.slice (some ⟨b, off, none⟩) n cap) ∧ W'.cell? ⟨C, 0, none⟩ = some (.slice (some ⟨ogw, 0, none⟩) m ocw) ∧ W'.cell? ⟨C, 1, none⟩ = some (.slice (some ⟨g9, 0, none⟩) (n + 1) c9) ∧ W'.cell? ⟨F, 0, none⟩ = some (.int .i64 1)) := fun W' hb => by
                  have hb2 : Below w15.heap.size w15 W' := hb16.trans (by rw [hBe] at hb; exact hb)
                  exact ⟨(hb2.cell (p := ⟨B, 0, none⟩) q16F.2.1).trans c0, (hb2.cell (p := ⟨B, 1, none⟩) q16F.2.1).trans c1, (hb2.cell (p := ⟨C, 0, none⟩) q16F.2.2).trans d0, (hb2.cell (p := ⟨C, 1, none⟩) q16F.2.2).trans d1, (hb2.cell (p := ⟨F, 0, none⟩) q16F.1).trans f0⟩
                have Hw16 : Hid (∀ W', Below B0 W16 W' → Below W.heap.size W W' ∧ Below W10.heap.size W10 W') := fun W' hb => by
                  have hb2 : Below w15.heap.size w15 W' := hb16.trans (by rw [hBe] at hb; exact hb)
                  exact ⟨HW15.out.trans (hb2.mono HW15.out.size), H15.out.trans (hb2.mono H15.out.size)⟩
                have Hb16 : Hid (Below B0 W16 W16) := Below.refl _ _
                have hB16 : B0 ≤ W16.heap.size := by rw [hBe]; exact hb16.size
                clear hb16 hW16 hBe c0 c1 d0 d1 f0 f1 f2 hg0 hg1 hg2
                refine wpAnyH_take (i := 0) (by simp only [List.getElem?_toArray, List.getElem?_cons_zero]; rfl) (by kernel_rfl) (by kernel_rfl) (by kernel_rfl) (by intro _ _ _ h; exact h) (Or.inl ⟨by rfl, fun w hw => by (obtain ⟨c0, c1, d0, d1, f0⟩ := Hfc.out w hw; go_simp; try rfl)⟩) Hb16.out ?_
                refine wpAnyH_take (i := 1) (by simp only [List.getElem?_toArray, List.getElem?_cons_succ, List.getElem?_cons_zero]; rfl) (by kernel_rfl) (by kernel_rfl) (by kernel_rfl) (by intro _ _ _ h; exact h) (Or.inl ⟨by rfl, fun w hw => by (obtain ⟨c0, c1, d0, d1, f0⟩ := Hfc.out w hw; go_simp; try rfl)⟩) Hb16.out ?_
                go_frame
                refine wpAnyH_take (i := 2) (by simp only [List.getElem?_toArray, List.getElem?_cons_succ, List.getElem?_cons_zero]; rfl) (by kernel_rfl) (by kernel_rfl) (by kernel_rfl) (by intro _ _ _ h; exact h) (Or.inl ⟨by rfl, fun w hw => by (obtain ⟨c0, c1, d0, d1, f0⟩ := Hfc.out w hw; go_simp; try rfl)⟩) Hb16.out ?_
                refine wpAnyH_take (i := 3) (by simp only [List.getElem?_toArray, List.getElem?_cons_succ, List.getElem?_cons_zero]; rfl) (by kernel_rfl) (by kernel_rfl) (by kernel_rfl) (by intro _ _ _ h; exact h) (Or.inl ⟨by rfl, fun w hw => by (obtain ⟨c0, c1, d0, d1, f0⟩ := Hfc.out w hw; go_simp; try rfl)⟩) Hb16.out ?_
                go_frame
                refine wpAnyH_take (i := 4) (by simp only [List.getElem?_toArray, List.getElem?_cons_succ, List.getElem?_cons_zero]; rfl) (by kernel_rfl) (by kernel_rfl) (by kernel_rfl) (by intro _ _ _ h; exact h) (Or.inr ⟨by go_simp, rfl⟩) Hb16.out ?_
                refine wpAnyH_take (i := 5) (by simp only [List.getElem?_toArray, List.getElem?_cons_succ, List.getElem?_cons_zero]; rfl) (by kernel_rfl) (by kernel_rfl) (by kernel_rfl) (by intro _ _ _ h; exact h) (Or.inr ⟨by go_simp, rfl⟩) Hb16.out ?_
                try go_frame
                refine wpAnyH_take (i := 6) (by simp only [List.getElem?_toArray, List.getElem?_cons_succ, List.getElem?_cons_zero]; rfl) (by kernel_rfl) (by kernel_rfl) (by kernel_rfl) (by intro _ _ _ h; exact h) (Or.inr ⟨by go_simp, rfl⟩) Hb16.out ?_
                refine wpAnyH_take (i := 7) (by simp only [List.getElem?_toArray, List.getElem?_cons_succ, List.getElem?_cons_zero]; rfl) (by kernel_rfl) (by kernel_rfl) (by kernel_rfl) (by intro _ _ _ h; exact h) (Or.inr ⟨by go_simp, rfl⟩) Hb16.out ?_
                try go_frame
                refine wpAnyH_take (i := 8) (by simp only [List.getElem?_toArray, List.getElem?_cons_succ, List.getElem?_cons_zero]; rfl) (by kernel_rfl) (by kernel_rfl) (by kernel_rfl) (by intro _ _ _ h; exact h) (Or.inr ⟨by go_simp, rfl⟩) Hb16.out ?_
                refine wpAnyH_take (i := 9) (by simp only [List.getElem?_toArray, List.getElem?_cons_succ, List.getElem?_cons_zero]; rfl) (by kernel_rfl) (by kernel_rfl) (by kernel_rfl) (by intro _ _ _ h; exact h) (Or.inr ⟨by go_simp, rfl⟩) Hb16.out ?_
                try go_frame
                refine wpAnyH_take (i := 10) (by simp only [List.getElem?_toArray, List.getElem?_cons_succ, List.getElem?_cons_zero]; rfl) (by kernel_rfl) (by kernel_rfl) (by kernel_rfl) (by intro _ _ _ h; exact h) (Or.inr ⟨by go_simp, rfl⟩) Hb16.out ?_
                refine wpAnyH_take (i := 11) (by simp only [List.getElem?_toArray, List.getElem?_cons_succ, List.getElem?_cons_zero]; rfl) (by kernel_rfl) (by kernel_rfl) (by kernel_rfl) (by intro _ _ _ h; exact h) (Or.inr ⟨by go_simp, rfl⟩) Hb16.out ?_
                try go_frame
                refine wpAnyH_take (i := 12) (by simp only [List.getElem?_toArray, List.getElem?_cons_succ, List.getElem?_cons_zero]; rfl) (by kernel_rfl) (by kernel_rfl) (by kernel_rfl) (by intro _ _ _ h; exact h) (Or.inr ⟨by go_simp, rfl⟩) Hb16.out ?_
                try go_frame
                refine wpAnyH_take (i := 13) (by simp only [List.getElem?_toArray, List.getElem?_cons_succ, List.getElem?_cons_zero]; rfl) (by kernel_rfl) (by kernel_rfl) (by kernel_rfl) (by intro _ _ _ h; exact h) (Or.inl ⟨by rfl, fun w hw => by (skip; go_simp; try rfl)⟩) Hb16.out ?_
                go_frame
                refine wpAnyH_take (i := 14) (by simp only [List.getElem?_toArray, List.getElem?_cons_succ, List.getElem?_cons_zero]; rfl) (by kernel_rfl) (by kernel_rfl) (by kernel_rfl) (by intro _ _ _ h; exact h) (Or.inl ⟨by rfl, fun w hw => by (skip; go_simp; try rfl)⟩) Hb16.out ?_
                go_frame
                try go_frame
                refine wpAnyH_done (by kernel_rfl) ?_ _
                go_wp2_with fail
                go_ret
                exact ⟨by rfl, (Hw16.out _ Hb16.out).1⟩
                --F>
              have hd3 : decide (k2 < 1) = false := by simpa using h3
              by_cases h4 : 1024 < k2
              · --<G
                have hd4 : decide (1024 < k2) = true := by simpa using h4
                go_upto_region 22 with (fail)
                clear g0 g1 g2 gz0 gz1 gz2 gp c0 c1
                obtain ⟨W14, hW14⟩ : ∃ w : World, w = ((W13.setCell ⟨D, 0, none⟩ (.int .i64 1)).setCell ⟨D, 1, none⟩ (.int .i64 (n : Int))).setCell ⟨D, 2, none⟩ (.int .i64 3) := ⟨_, rfl⟩
                rw [← hW14]
                have h3 := set3 (a := .int .i64 1) (b := .int .i64 (n : Int)) (c := .int .i64 3) HG.out.1 HG.out.2.1 HG.out.2.2.1
                rw [← hW14] at h3
                clear hW14
                obtain ⟨hb14, hg0, hg1, hg2⟩ := h3
                have hb1014 : Below W10.heap.size W10 W14 := H13.out.1.trans (hb14.mono q13.2.2)
                have f0 := (hb14.cell (p := ⟨F, 0, none⟩) q13.2.1).trans H13.out.2.1
                have f1 := (hb14.cell (p := ⟨F, 1, none⟩) q13.2.1).trans H13.out.2.2.1
                have f2 := (hb14.cell (p := ⟨F, 2, none⟩) q13.2.1).trans H13.out.2.2.2
                have d0 := (hb1014.cell (p := ⟨C, 0, none⟩) q10C).trans H10.out.2.2.1
                have d1 := (hb1014.cell (p := ⟨C, 1, none⟩) q10C).trans H10.out.2.2.2.1
                have c0 := (hb1014.cell (p := ⟨B, 0, none⟩) q10B).trans H10.out.1
                have c1 := (hb1014.cell (p := ⟨B, 1, none⟩) q10B).trans H10.out.2.1
                have q14 := hb1014.size
                have q14D : D < W14.heap.size := Nat.lt_of_lt_of_le q13.1 hb14.size
                have H14 := Lib.hid hb1014
                clear hb1014 hb14
                go_wp2_with fail
                refine (ncheck_any (p.more (moreFn f.name i k2)) _ _ _ _ W14 (HQ.out.2.1.later H14.out)).mono ?_
                rintro e w15 ⟨rfl, hb15⟩
                obtain ⟨u, hu⟩ : ∃ u, u = (p.more (moreFn f.name i k2)).nfault := ⟨_, rfl⟩
                rw [← hu]
                have Hu := Lib.hid hu
                obtain ⟨xa, xb, xc⟩ := u
                unfold fltV
                have q14F : F < W14.heap.size ∧ B < W14.heap.size ∧ C < W14.heap.size := by omega
                rw [← hb15.cell (p := ⟨F, _, none⟩) q14F.1] at f0 f1 f2
                rw [← hb15.cell (p := ⟨B, _, none⟩) q14F.2.1] at c0 c1
                rw [← hb15.cell (p := ⟨C, _, none⟩) q14F.2.2] at d0 d1
                rw [← hb15.cell (p := ⟨D, _, none⟩) q14D] at hg0 hg1 hg2
                have q15 := hb15.size
                have H15 := Lib.hid (H14.out.trans (hb15.mono q14))
                have HW15 := Lib.hid (HW.out.trans ((HQ.out.1.trans (H15.out.mono HQ.out.1.size)).mono HW.out.size))
                clear hu hb15
                by_cases hx : xa = 9
                · subst hx
                  go_wp2_with fail
                  go_ret
                  exact ⟨rfl, HW15.out⟩
                have hlaw : (fa, fb, fc) = wantT n np i k2 := by
                  rcases Hlaw.out with h | ⟨_, h⟩
                  · rw [← Hu.out] at h; exact absurd h hx
                  · rw [Hr.out, h, ← Hf.out.2, ← Hl.out.2]
                have hw : wantT n np i k2 = (1, (n : Int), 3) := by unfold wantT; rw [if_neg (by omega), if_neg (by omega), if_pos (by omega)]
                rw [hw] at hlaw
                simp only [Prod.mk.injEq] at hlaw
                obtain ⟨rfl, rfl, rfl⟩ := hlaw
                clear hw Hlaw
                go_upto_region 26 with (fail)
                obtain ⟨B0, hBe⟩ : ∃ B0, B0 = w15.heap.size := ⟨_, rfl⟩
                refine wp_region_held (S := Below B0 w15.drew) rfl ?_
                change wpAnyH _ _ _ _ (Below B0 w15.drew) _ _ _ w15.drew
                obtain ⟨W16, hW16⟩ : ∃ W0, W0 = w15.drew := ⟨_, rfl⟩
                rw [← hW16]
                have hb16 : Below w15.heap.size w15 W16 := by rw [hW16]; exact (Below.refl _ _).drew
                have q16F : F < w15.heap.size ∧ B < w15.heap.size ∧ C < w15.heap.size := by omega
                have Hfc : Hid (∀ W', Below B0 W16 W' → W'.cell? ⟨B, 0, none⟩ = some (.slice aw m cw) ∧ W'.cell? ⟨B, 1, none⟩ = some (.slice (some ⟨b, off, none⟩) n cap) ∧ W'.cell? ⟨C, 0, none⟩ = some (.slice (some ⟨ogw, 0, none⟩) m ocw) ∧ W'.cell? ⟨C, 1, none⟩ = some (.slice (some ⟨g9, 0, none⟩) (n + 1) c9) ∧ W'.cell? ⟨F, 0, none⟩ = some (.int .i64 1)) := fun W' hb => by
                  have hb2 : Below w15.heap.size w15 W' := hb16.trans (by rw [hBe] at hb; exact hb)
                  exact ⟨(hb2.cell (p := ⟨B, 0, none⟩) q16F.2.1).trans c0, (hb2.cell (p := ⟨B, 1, none⟩) q16F.2.1).trans c1, (hb2.cell (p := ⟨C, 0, none⟩) q16F.2.2).trans d0, (hb2.cell (p := ⟨C, 1, none⟩) q16F.2.2).trans d1, (hb2.cell (p := ⟨F, 0, none⟩) q16F.1).trans f0⟩
                have Hw16 : Hid (∀ W', Below B0 W16 W' → Below W.heap.size W W' ∧ Below W10.heap.size W10 W') := fun W' hb => by
                  have hb2 : Below w15.heap.size w15 W' := hb16.trans (by rw [hBe] at hb; exact hb)
                  exact ⟨HW15.out.trans (hb2.mono HW15.out.size), H15.out.trans (hb2.mono H15.out.size)⟩
                have Hb16 : Hid (Below B0 W16 W16) := Below.refl _ _
                have hB16 : B0 ≤ W16.heap.size := by rw [hBe]; exact hb16.size
                clear hb16 hW16 hBe c0 c1 d0 d1 f0 f1 f2 hg0 hg1 hg2
                refine wpAnyH_take (i := 0) (by simp only [List.getElem?_toArray, List.getElem?_cons_zero]; rfl) (by kernel_rfl) (by kernel_rfl) (by kernel_rfl) (by intro _ _ _ h; exact h) (Or.inl ⟨by rfl, fun w hw => by (obtain ⟨c0, c1, d0, d1, f0⟩ := Hfc.out w hw; go_simp; try rfl)⟩) Hb16.out ?_
                refine wpAnyH_take (i := 1) (by simp only [List.getElem?_toArray, List.getElem?_cons_succ, List.getElem?_cons_zero]; rfl) (by kernel_rfl) (by kernel_rfl) (by kernel_rfl) (by intro _ _ _ h; exact h) (Or.inl ⟨by rfl, fun w hw => by (obtain ⟨c0, c1, d0, d1, f0⟩ := Hfc.out w hw; go_simp; try rfl)⟩) Hb16.out ?_
                go_frame
                refine wpAnyH_take (i := 2) (by simp only [List.getElem?_toArray, List.getElem?_cons_succ, List.getElem?_cons_zero]; rfl) (by kernel_rfl) (by kernel_rfl) (by kernel_rfl) (by intro _ _ _ h; exact h) (Or.inl ⟨by rfl, fun w hw => by (obtain ⟨c0, c1, d0, d1, f0⟩ := Hfc.out w hw; go_simp; try rfl)⟩) Hb16.out ?_
                refine wpAnyH_take (i := 3) (by simp only [List.getElem?_toArray, List.getElem?_cons_succ, List.getElem?_cons_zero]; rfl) (by kernel_rfl) (by kernel_rfl) (by kernel_rfl) (by intro _ _ _ h; exact h) (Or.inl ⟨by rfl, fun w hw => by (obtain ⟨c0, c1, d0, d1, f0⟩ := Hfc.out w hw; go_simp; try rfl)⟩) Hb16.out ?_
                go_frame
                refine wpAnyH_take (i := 4) (by simp only [List.getElem?_toArray, List.getElem?_cons_succ, List.getElem?_cons_zero]; rfl) (by kernel_rfl) (by kernel_rfl) (by kernel_rfl) (by intro _ _ _ h; exact h) (Or.inr ⟨by go_simp, rfl⟩) Hb16.out ?_
                refine wpAnyH_take (i := 5) (by simp only [List.getElem?_toArray, List.getElem?_cons_succ, List.getElem?_cons_zero]; rfl) (by kernel_rfl) (by kernel_rfl) (by kernel_rfl) (by intro _ _ _ h; exact h) (Or.inr ⟨by go_simp, rfl⟩) Hb16.out ?_
                try go_frame
                refine wpAnyH_take (i := 6) (by simp only [List.getElem?_toArray, List.getElem?_cons_succ, List.getElem?_cons_zero]; rfl) (by kernel_rfl) (by kernel_rfl) (by kernel_rfl) (by intro _ _ _ h; exact h) (Or.inr ⟨by go_simp, rfl⟩) Hb16.out ?_
                refine wpAnyH_take (i := 7) (by simp only [List.getElem?_toArray, List.getElem?_cons_succ, List.getElem?_cons_zero]; rfl) (by kernel_rfl) (by kernel_rfl) (by kernel_rfl) (by intro _ _ _ h; exact h) (Or.inr ⟨by go_simp, rfl⟩) Hb16.out ?_
                try go_frame
                refine wpAnyH_take (i := 8) (by simp only [List.getElem?_toArray, List.getElem?_cons_succ, List.getElem?_cons_zero]; rfl) (by kernel_rfl) (by kernel_rfl) (by kernel_rfl) (by intro _ _ _ h; exact h) (Or.inr ⟨by go_simp, rfl⟩) Hb16.out ?_
                refine wpAnyH_take (i := 9) (by simp only [List.getElem?_toArray, List.getElem?_cons_succ, List.getElem?_cons_zero]; rfl) (by kernel_rfl) (by kernel_rfl) (by kernel_rfl) (by intro _ _ _ h; exact h) (Or.inr ⟨by go_simp, rfl⟩) Hb16.out ?_
                try go_frame
                refine wpAnyH_take (i := 10) (by simp only [List.getElem?_toArray, List.getElem?_cons_succ, List.getElem?_cons_zero]; rfl) (by kernel_rfl) (by kernel_rfl) (by kernel_rfl) (by intro _ _ _ h; exact h) (Or.inr ⟨by go_simp, rfl⟩) Hb16.out ?_
                refine wpAnyH_take (i := 11) (by simp only [List.getElem?_toArray, List.getElem?_cons_succ, List.getElem?_cons_zero]; rfl) (by kernel_rfl) (by kernel_rfl) (by kernel_rfl) (by intro _ _ _ h; exact h) (Or.inr ⟨by go_simp, rfl⟩) Hb16.out ?_
                try go_frame
                refine wpAnyH_take (i := 12) (by simp only [List.getElem?_toArray, List.getElem?_cons_succ, List.getElem?_cons_zero]; rfl) (by kernel_rfl) (by kernel_rfl) (by kernel_rfl) (by intro _ _ _ h; exact h) (Or.inr ⟨by go_simp, rfl⟩) Hb16.out ?_
                try go_frame
                refine wpAnyH_take (i := 13) (by simp only [List.getElem?_toArray, List.getElem?_cons_succ, List.getElem?_cons_zero]; rfl) (by kernel_rfl) (by kernel_rfl) (by kernel_rfl) (by intro _ _ _ h; exact h) (Or.inl ⟨by rfl, fun w hw => by (skip; go_simp; try rfl)⟩) Hb16.out ?_
                go_frame
                refine wpAnyH_take (i := 14) (by simp only [List.getElem?_toArray, List.getElem?_cons_succ, List.getElem?_cons_zero]; rfl) (by kernel_rfl) (by kernel_rfl) (by kernel_rfl) (by intro _ _ _ h; exact h) (Or.inl ⟨by rfl, fun w hw => by (skip; go_simp; try rfl)⟩) Hb16.out ?_
                go_frame
                try go_frame
                refine wpAnyH_done (by kernel_rfl) ?_ _
                go_wp2_with fail
                go_ret
                exact ⟨by rfl, (Hw16.out _ Hb16.out).1⟩
                --G>
              · have hd4 : decide (1024 < k2) = false := by simpa using h4
                go_upto_region 22 with (fail)
                clear g0 g1 g2 gz0 gz1 gz2 gp c0 c1
                obtain ⟨W14, hW14⟩ : ∃ w : World, w = W13 := ⟨_, rfl⟩
                rw [← hW14]
                have hb14 : Below D W13 W14 := by rw [hW14]; exact Below.refl _ _
                have hg0 : W14.cell? ⟨D, 0, none⟩ = some (.int .i64 0) := by rw [hW14]; exact HG.out.1
                have hg1 : W14.cell? ⟨D, 1, none⟩ = some (.int .i64 0) := by rw [hW14]; exact HG.out.2.1
                have hg2 : W14.cell? ⟨D, 2, none⟩ = some (.int .i64 0) := by rw [hW14]; exact HG.out.2.2.1
                clear hW14
                have hb1014 : Below W10.heap.size W10 W14 := H13.out.1.trans (hb14.mono q13.2.2)
                have f0 := (hb14.cell (p := ⟨F, 0, none⟩) q13.2.1).trans H13.out.2.1
                have f1 := (hb14.cell (p := ⟨F, 1, none⟩) q13.2.1).trans H13.out.2.2.1
                have f2 := (hb14.cell (p := ⟨F, 2, none⟩) q13.2.1).trans H13.out.2.2.2
                have d0 := (hb1014.cell (p := ⟨C, 0, none⟩) q10C).trans H10.out.2.2.1
                have d1 := (hb1014.cell (p := ⟨C, 1, none⟩) q10C).trans H10.out.2.2.2.1
                have c0 := (hb1014.cell (p := ⟨B, 0, none⟩) q10B).trans H10.out.1
                have c1 := (hb1014.cell (p := ⟨B, 1, none⟩) q10B).trans H10.out.2.1
                have q14 := hb1014.size
                have q14D : D < W14.heap.size := Nat.lt_of_lt_of_le q13.1 hb14.size
                have H14 := Lib.hid hb1014
                clear hb1014 hb14
                go_wp2_with fail
                refine (ncheck_any (p.more (moreFn f.name i k2)) _ _ _ _ W14 (HQ.out.2.1.later H14.out)).mono ?_
                rintro e w15 ⟨rfl, hb15⟩
                obtain ⟨u, hu⟩ : ∃ u, u = (p.more (moreFn f.name i k2)).nfault := ⟨_, rfl⟩
                rw [← hu]
                have Hu := Lib.hid hu
                obtain ⟨xa, xb, xc⟩ := u
                unfold fltV
                have q14F : F < W14.heap.size ∧ B < W14.heap.size ∧ C < W14.heap.size := by omega
                rw [← hb15.cell (p := ⟨F, _, none⟩) q14F.1] at f0 f1 f2
                rw [← hb15.cell (p := ⟨B, _, none⟩) q14F.2.1] at c0 c1
                rw [← hb15.cell (p := ⟨C, _, none⟩) q14F.2.2] at d0 d1
                rw [← hb15.cell (p := ⟨D, _, none⟩) q14D] at hg0 hg1 hg2
                have q15 := hb15.size
                have H15 := Lib.hid (H14.out.trans (hb15.mono q14))
                have HW15 := Lib.hid (HW.out.trans ((HQ.out.1.trans (H15.out.mono HQ.out.1.size)).mono HW.out.size))
                clear hu hb15
                by_cases hx : xa = 9
                · subst hx
                  go_wp2_with fail
                  go_ret
                  exact ⟨rfl, HW15.out⟩
                have hlaw : (fa, fb, fc) = wantT n np i k2 := by
                  rcases Hlaw.out with h | ⟨_, h⟩
                  · rw [← Hu.out] at h; exact absurd h hx
                  · rw [Hr.out, h, ← Hf.out.2, ← Hl.out.2]
                have hw : wantT n np i k2 = (0, 0, 0) := by unfold wantT; rw [if_neg (by omega), if_neg (by omega), if_neg (by omega)]
                rw [hw] at hlaw
                simp only [Prod.mk.injEq] at hlaw
                obtain ⟨rfl, rfl, rfl⟩ := hlaw
                clear hw Hlaw
                go_upto_region 26 with (fail)
                obtain ⟨B0, hBe⟩ : ∃ B0, B0 = w15.heap.size := ⟨_, rfl⟩
                refine wp_region_held (S := Below B0 w15.drew) rfl ?_
                change wpAnyH _ _ _ _ (Below B0 w15.drew) _ _ _ w15.drew
                obtain ⟨W16, hW16⟩ : ∃ W0, W0 = w15.drew := ⟨_, rfl⟩
                rw [← hW16]
                have hb16 : Below w15.heap.size w15 W16 := by rw [hW16]; exact (Below.refl _ _).drew
                have q16F : F < w15.heap.size ∧ B < w15.heap.size ∧ C < w15.heap.size := by omega
                have Hfc : Hid (∀ W', Below B0 W16 W' → W'.cell? ⟨B, 0, none⟩ = some (.slice aw m cw) ∧ W'.cell? ⟨B, 1, none⟩ = some (.slice (some ⟨b, off, none⟩) n cap) ∧ W'.cell? ⟨C, 0, none⟩ = some (.slice (some ⟨ogw, 0, none⟩) m ocw) ∧ W'.cell? ⟨C, 1, none⟩ = some (.slice (some ⟨g9, 0, none⟩) (n + 1) c9) ∧ W'.cell? ⟨F, 0, none⟩ = some (.int .i64 0)) := fun W' hb => by
                  have hb2 : Below w15.heap.size w15 W' := hb16.trans (by rw [hBe] at hb; exact hb)
                  exact ⟨(hb2.cell (p := ⟨B, 0, none⟩) q16F.2.1).trans c0, (hb2.cell (p := ⟨B, 1, none⟩) q16F.2.1).trans c1, (hb2.cell (p := ⟨C, 0, none⟩) q16F.2.2).trans d0, (hb2.cell (p := ⟨C, 1, none⟩) q16F.2.2).trans d1, (hb2.cell (p := ⟨F, 0, none⟩) q16F.1).trans f0⟩
                have Hw16 : Hid (∀ W', Below B0 W16 W' → Below W.heap.size W W' ∧ Below W10.heap.size W10 W') := fun W' hb => by
                  have hb2 : Below w15.heap.size w15 W' := hb16.trans (by rw [hBe] at hb; exact hb)
                  exact ⟨HW15.out.trans (hb2.mono HW15.out.size), H15.out.trans (hb2.mono H15.out.size)⟩
                have Hb16 : Hid (Below B0 W16 W16) := Below.refl _ _
                have hB16 : B0 ≤ W16.heap.size := by rw [hBe]; exact hb16.size
                clear hb16 hW16 hBe c0 c1 d0 d1 f0 f1 f2 hg0 hg1 hg2
                refine wpAnyH_take (i := 0) (by simp only [List.getElem?_toArray, List.getElem?_cons_zero]; rfl) (by kernel_rfl) (by kernel_rfl) (by kernel_rfl) (by intro _ _ _ h; exact h) (Or.inl ⟨by rfl, fun w hw => by (obtain ⟨c0, c1, d0, d1, f0⟩ := Hfc.out w hw; go_simp; try rfl)⟩) Hb16.out ?_
                refine wpAnyH_take (i := 1) (by simp only [List.getElem?_toArray, List.getElem?_cons_succ, List.getElem?_cons_zero]; rfl) (by kernel_rfl) (by kernel_rfl) (by kernel_rfl) (by intro _ _ _ h; exact h) (Or.inl ⟨by rfl, fun w hw => by (obtain ⟨c0, c1, d0, d1, f0⟩ := Hfc.out w hw; go_simp; try rfl)⟩) Hb16.out ?_
                go_frame
                refine wpAnyH_take (i := 2) (by simp only [List.getElem?_toArray, List.getElem?_cons_succ, List.getElem?_cons_zero]; rfl) (by kernel_rfl) (by kernel_rfl) (by kernel_rfl) (by intro _ _ _ h; exact h) (Or.inl ⟨by rfl, fun w hw => by (obtain ⟨c0, c1, d0, d1, f0⟩ := Hfc.out w hw; go_simp; try rfl)⟩) Hb16.out ?_
                refine wpAnyH_take (i := 3) (by simp only [List.getElem?_toArray, List.getElem?_cons_succ, List.getElem?_cons_zero]; rfl) (by kernel_rfl) (by kernel_rfl) (by kernel_rfl) (by intro _ _ _ h; exact h) (Or.inl ⟨by rfl, fun w hw => by (obtain ⟨c0, c1, d0, d1, f0⟩ := Hfc.out w hw; go_simp; try rfl)⟩) Hb16.out ?_
                go_frame
                refine wpAnyH_take (i := 4) (by simp only [List.getElem?_toArray, List.getElem?_cons_succ, List.getElem?_cons_zero]; rfl) (by kernel_rfl) (by kernel_rfl) (by kernel_rfl) (by intro _ _ _ h; exact h) (Or.inl ⟨by rfl, fun w hw => by (obtain ⟨c0, c1, d0, d1, f0⟩ := Hfc.out w hw; go_simp; try rfl)⟩) Hb16.out ?_
                refine wpAnyH_take (i := 5) (by simp only [List.getElem?_toArray, List.getElem?_cons_succ, List.getElem?_cons_zero]; rfl) (by kernel_rfl) (by kernel_rfl) (by kernel_rfl) (by intro _ _ _ h; exact h) (Or.inl ⟨by rfl, fun w hw => by (obtain ⟨c0, c1, d0, d1, f0⟩ := Hfc.out w hw; go_simp; try rfl)⟩) Hb16.out ?_
                go_frame
                refine wpAnyH_take (i := 6) (by simp only [List.getElem?_toArray, List.getElem?_cons_succ, List.getElem?_cons_zero]; rfl) (by kernel_rfl) (by kernel_rfl) (by kernel_rfl) (by intro _ _ _ h; exact h) (Or.inl ⟨by rfl, fun w hw => by (obtain ⟨c0, c1, d0, d1, f0⟩ := Hfc.out w hw; go_simp; try rfl)⟩) Hb16.out ?_
                refine wpAnyH_take (i := 7) (by simp only [List.getElem?_toArray, List.getElem?_cons_succ, List.getElem?_cons_zero]; rfl) (by kernel_rfl) (by kernel_rfl) (by kernel_rfl) (by intro _ _ _ h; exact h) (Or.inl ⟨by rfl, fun w hw => by (obtain ⟨c0, c1, d0, d1, f0⟩ := Hfc.out w hw; go_simp; try rfl)⟩) Hb16.out ?_
                go_frame
                refine wpAnyH_take (i := 9) (by simp only [List.getElem?_toArray, List.getElem?_cons_succ, List.getElem?_cons_zero]; rfl) (by kernel_rfl) (by kernel_rfl) (by kernel_rfl) (by intro _ _ _ h; exact h) (Or.inl ⟨by rfl, fun w hw => by (obtain ⟨c0, c1, d0, d1, f0⟩ := Hfc.out w hw; go_simp; try rfl)⟩) Hb16.out ?_
                go_frame
                refine wpAnyH_take (i := 10) (by simp only [List.getElem?_toArray, List.getElem?_cons_succ, List.getElem?_cons_zero]; rfl) (by kernel_rfl) (by kernel_rfl) (by kernel_rfl) (by intro _ _ _ h; exact h) (Or.inl ⟨by rfl, fun w hw => by (obtain ⟨c0, c1, d0, d1, f0⟩ := Hfc.out w hw; go_simp; try rfl)⟩) Hb16.out ?_
                go_frame
                try go_frame
                have hst := more_straight (p := p) (j := j) (f := f) (k := i) (size := k2) Hf.out.1 (by rw [← Ht.out]) (by rw [← Hr.out])
                rw [show p.funcs.length = n from hn'] at hst
                obtain ⟨z, hz⟩ : ∃ z, z = p.straight (j : Int) false := ⟨_, rfl⟩
                rw [← hz] at hst
                have Hst := Lib.hid (And.intro hst hz)
                clear hst hz
                refine wpAnyH_ready (rs := [8]) (by kernel_rfl) (by simp) ?_
                refine AllReadyH.cons rfl (fun K hK => ?_) AllReadyH.nil
                go_simp
                refine (rgStraight_any (p.more (moreFn f.name i k2)) _ _ _ _ (n : Int) false W16 (HQ.out.2.1.later (Hw16.out _ Hb16.out).2) HQ.out.2.2 (by unfold in64; omega)).mono ?_
                rintro e w17 ⟨rfl, hb17⟩
                rw [Hst.out.1]
                have Hb17 : Hid (Below B0 W16 w17) := hb17.mono hB16
                clear hb17
                refine hK.out _ _ Hb17.out (fun _ => ?_)
                clear hK K
                try go_frame
                refine wpAnyH_ready (rs := [11]) (by kernel_rfl) (by simp) ?_
                refine AllReadyH.cons rfl (fun K hK => ?_) AllReadyH.nil
                go_simp
                refine (rgStraight_any p _ _ vp vb (j : Int) false w17 (HP.out.later (Hw16.out _ Hb17.out).1) Hrg.out Hk.out.1).mono ?_
                rintro e w18 ⟨rfl, hb18⟩
                rw [← Hst.out.2]
                have Hb18 : Hid (Below B0 W16 w18) := Hb17.out.trans (hb18.mono (Nat.le_trans hB16 Hb17.out.size))
                clear hb18
                refine hK.out _ _ Hb18.out (fun _ => ?_)
                clear hK K
                refine wpAnyH_take (i := 12) (by simp only [List.getElem?_toArray, List.getElem?_cons_succ, List.getElem?_cons_zero]; rfl) (by kernel_rfl) (by kernel_rfl) (by kernel_rfl) (by intro _ _ _ h; exact h) (Or.inl ⟨by rfl, fun w hw => by (skip; go_simp; try rfl)⟩) Hb18.out ?_
                refine wpAnyH_take (i := 13) (by simp only [List.getElem?_toArray, List.getElem?_cons_succ, List.getElem?_cons_zero]; rfl) (by kernel_rfl) (by kernel_rfl) (by kernel_rfl) (by intro _ _ _ h; exact h) (Or.inl ⟨by rfl, fun w hw => by (skip; go_simp; try rfl)⟩) Hb18.out ?_
                go_frame
                refine wpAnyH_take (i := 14) (by simp only [List.getElem?_toArray, List.getElem?_cons_succ, List.getElem?_cons_zero]; rfl) (by kernel_rfl) (by kernel_rfl) (by kernel_rfl) (by intro _ _ _ h; exact h) (Or.inl ⟨by rfl, fun w hw => by (skip; go_simp; try rfl)⟩) Hb18.out ?_
                go_frame
                try go_frame
                refine wpAnyH_done (by kernel_rfl) ?_ _
                go_wp2_with fail
                go_ret
                exact ⟨by simp, (Hw16.out _ Hb18.out).1⟩
            · --<H
              have hd2 : ((i : Int) == (np : Int)) = false := by simp; omega
              go_upto_region 22 with (fail)
              clear g0 g1 g2 gz0 gz1 gz2 gp c0 c1
              obtain ⟨W14, hW14⟩ : ∃ w : World, w = ((W13.setCell ⟨D, 0, none⟩ (.int .i64 41)).setCell ⟨D, 1, none⟩ (.int .i64 (n : Int))).setCell ⟨D, 2, none⟩ (.int .i64 2) := ⟨_, rfl⟩
              rw [← hW14]
              have h3 := set3 (a := .int .i64 41) (b := .int .i64 (n : Int)) (c := .int .i64 2) HG.out.1 HG.out.2.1 HG.out.2.2.1
              rw [← hW14] at h3
              clear hW14
              obtain ⟨hb14, hg0, hg1, hg2⟩ := h3
              have hb1014 : Below W10.heap.size W10 W14 := H13.out.1.trans (hb14.mono q13.2.2)
              have f0 := (hb14.cell (p := ⟨F, 0, none⟩) q13.2.1).trans H13.out.2.1
              have f1 := (hb14.cell (p := ⟨F, 1, none⟩) q13.2.1).trans H13.out.2.2.1
              have f2 := (hb14.cell (p := ⟨F, 2, none⟩) q13.2.1).trans H13.out.2.2.2
              have d0 := (hb1014.cell (p := ⟨C, 0, none⟩) q10C).trans H10.out.2.2.1
              have d1 := (hb1014.cell (p := ⟨C, 1, none⟩) q10C).trans H10.out.2.2.2.1
              have c0 := (hb1014.cell (p := ⟨B, 0, none⟩) q10B).trans H10.out.1
              have c1 := (hb1014.cell (p := ⟨B, 1, none⟩) q10B).trans H10.out.2.1
              have q14 := hb1014.size
              have q14D : D < W14.heap.size := Nat.lt_of_lt_of_le q13.1 hb14.size
              have H14 := Lib.hid hb1014
              clear hb1014 hb14
              go_wp2_with fail
              refine (ncheck_any (p.more (moreFn f.name i k2)) _ _ _ _ W14 (HQ.out.2.1.later H14.out)).mono ?_
              rintro e w15 ⟨rfl, hb15⟩
              obtain ⟨u, hu⟩ : ∃ u, u = (p.more (moreFn f.name i k2)).nfault := ⟨_, rfl⟩
              rw [← hu]
              have Hu := Lib.hid hu
              obtain ⟨xa, xb, xc⟩ := u
              unfold fltV
              have q14F : F < W14.heap.size ∧ B < W14.heap.size ∧ C < W14.heap.size := by omega
              rw [← hb15.cell (p := ⟨F, _, none⟩) q14F.1] at f0 f1 f2
              rw [← hb15.cell (p := ⟨B, _, none⟩) q14F.2.1] at c0 c1
              rw [← hb15.cell (p := ⟨C, _, none⟩) q14F.2.2] at d0 d1
              rw [← hb15.cell (p := ⟨D, _, none⟩) q14D] at hg0 hg1 hg2
              have q15 := hb15.size
              have H15 := Lib.hid (H14.out.trans (hb15.mono q14))
              have HW15 := Lib.hid (HW.out.trans ((HQ.out.1.trans (H15.out.mono HQ.out.1.size)).mono HW.out.size))
              clear hu hb15
              by_cases hx : xa = 9
              · subst hx
                go_wp2_with fail
                go_ret
                exact ⟨rfl, HW15.out⟩
              have hlaw : (fa, fb, fc) = wantT n np i k2 := by
                rcases Hlaw.out with h | ⟨_, h⟩
                · rw [← Hu.out] at h; exact absurd h hx
                · rw [Hr.out, h, ← Hf.out.2, ← Hl.out.2]
              have hw : wantT n np i k2 = (41, (n : Int), 2) := by unfold wantT; rw [if_neg (by omega), if_pos (by omega)]
              rw [hw] at hlaw
              simp only [Prod.mk.injEq] at hlaw
              obtain ⟨rfl, rfl, rfl⟩ := hlaw
              clear hw Hlaw
              go_upto_region 26 with (fail)
              obtain ⟨B0, hBe⟩ : ∃ B0, B0 = w15.heap.size := ⟨_, rfl⟩
              refine wp_region_held (S := Below B0 w15.drew) rfl ?_
              change wpAnyH _ _ _ _ (Below B0 w15.drew) _ _ _ w15.drew
              obtain ⟨W16, hW16⟩ : ∃ W0, W0 = w15.drew := ⟨_, rfl⟩
              rw [← hW16]
              have hb16 : Below w15.heap.size w15 W16 := by rw [hW16]; exact (Below.refl _ _).drew
              have q16F : F < w15.heap.size ∧ B < w15.heap.size ∧ C < w15.heap.size := by omega
              have Hfc : Hid (∀ W', Below B0 W16 W' → W'.cell? ⟨B, 0, none⟩ = some (.slice aw m cw) ∧ W'.cell? ⟨B, 1, none⟩ = some (.slice (some ⟨b, off, none⟩) n cap) ∧ W'.cell? ⟨C, 0, none⟩ = some (.slice (some ⟨ogw, 0, none⟩) m ocw) ∧ W'.cell? ⟨C, 1, none⟩ = some (.slice (some ⟨g9, 0, none⟩) (n + 1) c9) ∧ W'.cell? ⟨F, 0, none⟩ = some (.int .i64 41)) := fun W' hb => by
                have hb2 : Below w15.heap.size w15 W' := hb16.trans (by rw [hBe] at hb; exact hb)
                exact ⟨(hb2.cell (p := ⟨B, 0, none⟩) q16F.2.1).trans c0, (hb2.cell (p := ⟨B, 1, none⟩) q16F.2.1).trans c1, (hb2.cell (p := ⟨C, 0, none⟩) q16F.2.2).trans d0, (hb2.cell (p := ⟨C, 1, none⟩) q16F.2.2).trans d1, (hb2.cell (p := ⟨F, 0, none⟩) q16F.1).trans f0⟩
              have Hw16 : Hid (∀ W', Below B0 W16 W' → Below W.heap.size W W' ∧ Below W10.heap.size W10 W') := fun W' hb => by
                have hb2 : Below w15.heap.size w15 W' := hb16.trans (by rw [hBe] at hb; exact hb)
                exact ⟨HW15.out.trans (hb2.mono HW15.out.size), H15.out.trans (hb2.mono H15.out.size)⟩
              have Hb16 : Hid (Below B0 W16 W16) := Below.refl _ _
              have hB16 : B0 ≤ W16.heap.size := by rw [hBe]; exact hb16.size
              clear hb16 hW16 hBe c0 c1 d0 d1 f0 f1 f2 hg0 hg1 hg2
              refine wpAnyH_take (i := 0) (by simp only [List.getElem?_toArray, List.getElem?_cons_zero]; rfl) (by kernel_rfl) (by kernel_rfl) (by kernel_rfl) (by intro _ _ _ h; exact h) (Or.inl ⟨by rfl, fun w hw => by (obtain ⟨c0, c1, d0, d1, f0⟩ := Hfc.out w hw; go_simp; try rfl)⟩) Hb16.out ?_
              refine wpAnyH_take (i := 1) (by simp only [List.getElem?_toArray, List.getElem?_cons_succ, List.getElem?_cons_zero]; rfl) (by kernel_rfl) (by kernel_rfl) (by kernel_rfl) (by intro _ _ _ h; exact h) (Or.inl ⟨by rfl, fun w hw => by (obtain ⟨c0, c1, d0, d1, f0⟩ := Hfc.out w hw; go_simp; try rfl)⟩) Hb16.out ?_
              go_frame
              refine wpAnyH_take (i := 2) (by simp only [List.getElem?_toArray, List.getElem?_cons_succ, List.getElem?_cons_zero]; rfl) (by kernel_rfl) (by kernel_rfl) (by kernel_rfl) (by intro _ _ _ h; exact h) (Or.inl ⟨by rfl, fun w hw => by (obtain ⟨c0, c1, d0, d1, f0⟩ := Hfc.out w hw; go_simp; try rfl)⟩) Hb16.out ?_
              refine wpAnyH_take (i := 3) (by simp only [List.getElem?_toArray, List.getElem?_cons_succ, List.getElem?_cons_zero]; rfl) (by kernel_rfl) (by kernel_rfl) (by kernel_rfl) (by intro _ _ _ h; exact h) (Or.inl ⟨by rfl, fun w hw => by (obtain ⟨c0, c1, d0, d1, f0⟩ := Hfc.out w hw; go_simp; try rfl)⟩) Hb16.out ?_
              go_frame
              refine wpAnyH_take (i := 4) (by simp only [List.getElem?_toArray, List.getElem?_cons_succ, List.getElem?_cons_zero]; rfl) (by kernel_rfl) (by kernel_rfl) (by kernel_rfl) (by intro _ _ _ h; exact h) (Or.inr ⟨by go_simp, rfl⟩) Hb16.out ?_
              refine wpAnyH_take (i := 5) (by simp only [List.getElem?_toArray, List.getElem?_cons_succ, List.getElem?_cons_zero]; rfl) (by kernel_rfl) (by kernel_rfl) (by kernel_rfl) (by intro _ _ _ h; exact h) (Or.inr ⟨by go_simp, rfl⟩) Hb16.out ?_
              try go_frame
              refine wpAnyH_take (i := 6) (by simp only [List.getElem?_toArray, List.getElem?_cons_succ, List.getElem?_cons_zero]; rfl) (by kernel_rfl) (by kernel_rfl) (by kernel_rfl) (by intro _ _ _ h; exact h) (Or.inr ⟨by go_simp, rfl⟩) Hb16.out ?_
              refine wpAnyH_take (i := 7) (by simp only [List.getElem?_toArray, List.getElem?_cons_succ, List.getElem?_cons_zero]; rfl) (by kernel_rfl) (by kernel_rfl) (by kernel_rfl) (by intro _ _ _ h; exact h) (Or.inr ⟨by go_simp, rfl⟩) Hb16.out ?_
              try go_frame
              refine wpAnyH_take (i := 8) (by simp only [List.getElem?_toArray, List.getElem?_cons_succ, List.getElem?_cons_zero]; rfl) (by kernel_rfl) (by kernel_rfl) (by kernel_rfl) (by intro _ _ _ h; exact h) (Or.inr ⟨by go_simp, rfl⟩) Hb16.out ?_
              refine wpAnyH_take (i := 9) (by simp only [List.getElem?_toArray, List.getElem?_cons_succ, List.getElem?_cons_zero]; rfl) (by kernel_rfl) (by kernel_rfl) (by kernel_rfl) (by intro _ _ _ h; exact h) (Or.inr ⟨by go_simp, rfl⟩) Hb16.out ?_
              try go_frame
              refine wpAnyH_take (i := 10) (by simp only [List.getElem?_toArray, List.getElem?_cons_succ, List.getElem?_cons_zero]; rfl) (by kernel_rfl) (by kernel_rfl) (by kernel_rfl) (by intro _ _ _ h; exact h) (Or.inr ⟨by go_simp, rfl⟩) Hb16.out ?_
              refine wpAnyH_take (i := 11) (by simp only [List.getElem?_toArray, List.getElem?_cons_succ, List.getElem?_cons_zero]; rfl) (by kernel_rfl) (by kernel_rfl) (by kernel_rfl) (by intro _ _ _ h; exact h) (Or.inr ⟨by go_simp, rfl⟩) Hb16.out ?_
              try go_frame
              refine wpAnyH_take (i := 12) (by simp only [List.getElem?_toArray, List.getElem?_cons_succ, List.getElem?_cons_zero]; rfl) (by kernel_rfl) (by kernel_rfl) (by kernel_rfl) (by intro _ _ _ h; exact h) (Or.inr ⟨by go_simp, rfl⟩) Hb16.out ?_
              try go_frame
              refine wpAnyH_take (i := 13) (by simp only [List.getElem?_toArray, List.getElem?_cons_succ, List.getElem?_cons_zero]; rfl) (by kernel_rfl) (by kernel_rfl) (by kernel_rfl) (by intro _ _ _ h; exact h) (Or.inl ⟨by rfl, fun w hw => by (skip; go_simp; try rfl)⟩) Hb16.out ?_
              go_frame
              refine wpAnyH_take (i := 14) (by simp only [List.getElem?_toArray, List.getElem?_cons_succ, List.getElem?_cons_zero]; rfl) (by kernel_rfl) (by kernel_rfl) (by kernel_rfl) (by intro _ _ _ h; exact h) (Or.inl ⟨by rfl, fun w hw => by (skip; go_simp; try rfl)⟩) Hb16.out ?_
              go_frame
              try go_frame
              refine wpAnyH_done (by kernel_rfl) ?_ _
              go_wp2_with fail
              go_ret
              exact ⟨by rfl, (Hw16.out _ Hb16.out).1⟩
              --H>
        · refine ⟨undef, undef, undef, undef, undef, undef, undef, undef, undef, undef, undef, rfl, .inl ⟨by decide, ?_⟩⟩
          have h0 : ∀ k, (Array.replicate 12 false).getD k false = true → False := fun k hk => by
            rw [Array.getD_eq_getD_getElem?, Array.getElem?_replicate] at hk
            split at hk <;> simp at hk
          have hsz : W0.heap.size = W7.heap.size := by rw [HW0.out]; rfl
          have e : ∀ j, W0.cell? ⟨X, j, none⟩ = W7.cell? ⟨X, j, none⟩ := fun j => by rw [HW0.out]; rfl
          have hx := Hx7.out
          exact ⟨Below.refl _ _, Nat.le_refl _, by omega, ⟨(e 0).trans hx.1, (e 1).trans hx.2.1, (e 2).trans hx.2.2.1, (e 3).trans hx.2.2.2⟩, fun h => (h0 0 h).elim, fun h => (h0 1 h).elim, fun h => (h0 2 h).elim, fun h => (h0 3 h).elim, fun h => (h0 4 h).elim, fun h => (h0 5 h).elim, fun h => (h0 6 h).elim, fun h => (h0 7 h).elim, fun h => (h0 8 h).elim, fun h => (h0 9 h).elim, fun h => (h0 10 h).elim⟩
  · --<D
    go_wp2_with fail
    go_ret
    exact ⟨rfl, H3.out⟩
    --D>
end Go.Proofs.Ytgcplcffejbniaa
