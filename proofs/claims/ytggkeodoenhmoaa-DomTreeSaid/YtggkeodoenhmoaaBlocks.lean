/- flow.Blocks. -/
import Derived.Test.YtggkeodoenhmoaaEdges
import Derived.Test.YtggkeodoenhmoaaRegion
namespace Go.Proofs.Ytggkeodoenhmoaa
open Go.RowKit Go.Shelf
attribute [local go_sem] Oper.semAt_some
theorem wide_fn (f : FuncId) : Fence.wide.fn f = True := rfl
attribute [local go_sem] wide_fn

def intoAt (l : List Int) (es : List Edge) : List Int := es.foldl (fun l e => l.set e.2.toNat (l.getD e.2.toNat 0 + 1)) l
def quietOne (code : List Ins) (e : Edge) : Bool := decide (e.1 = e.2 - 1) && decide ((nextL code e.1).length = 1)
def quietAt (code : List Ins) (l : List Bool) (es : List Edge) : List Bool := es.foldl (fun l e => l.set e.2.toNat (l.getD e.2.toNat false || quietOne code e)) l

theorem intoAt_snoc (l : List Int) (es : List Edge) (e : Edge) : intoAt l (es ++ [e]) = (intoAt l es).set e.2.toNat ((intoAt l es).getD e.2.toNat 0 + 1) := by simp [intoAt]
theorem quietAt_snoc (code : List Ins) (l : List Bool) (es : List Edge) (e : Edge) : quietAt code l (es ++ [e]) = (quietAt code l es).set e.2.toNat ((quietAt code l es).getD e.2.toNat false || quietOne code e) := by simp [quietAt]
theorem snoc_ind {α : Type} {p : List α → Prop} (h0 : p []) (hs : ∀ l x, p l → p (l ++ [x])) (l : List α) : p l := by
  have : ∀ n, ∀ l : List α, l.length = n → p l := by
    intro n
    induction n with
    | zero => intro l hl; rw [List.eq_nil_of_length_eq_zero hl]; exact h0
    | succ n ih =>
      intro l hl
      rcases snoc_cases l with rfl | ⟨t, x, rfl⟩
      · simp at hl
      · exact hs t x (ih t (by simpa using hl))
  exact this _ l rfl
theorem intoAt_length (l : List Int) (es : List Edge) : (intoAt l es).length = l.length := by
  induction es using snoc_ind with
  | h0 => rfl
  | hs es e ih => rw [intoAt_snoc, List.length_set, ih]
theorem quietAt_length (code : List Ins) (l : List Bool) (es : List Edge) : (quietAt code l es).length = l.length := by
  induction es using snoc_ind with
  | h0 => rfl
  | hs es e ih => rw [quietAt_snoc, List.length_set, ih]
theorem getD_set_any {α : Type} (l : List α) (i j : Nat) (x d : α) : (l.set i x).getD j d = if j = i ∧ i < l.length then x else l.getD j d := by
  by_cases hi : i < l.length
  · rw [getD_set _ _ _ _ _ hi]; simp [hi]
  · rw [List.set_eq_of_length_le (by omega)]; simp [hi]
theorem intoAt_bound (n : Nat) (es : List Edge) (i : Nat) : 0 ≤ (intoAt (List.replicate n 0) es).getD i 0 ∧ (intoAt (List.replicate n 0) es).getD i 0 ≤ es.length := by
  induction es using snoc_ind generalizing i with
  | h0 => simp [intoAt, List.getD, List.getElem?_replicate]; split <;> simp
  | hs es e ih =>
    rw [intoAt_snoc, getD_set_any]
    have h1 := ih i
    have h2 := ih e.2.toNat
    split <;> simp only [List.length_append, List.length_singleton] <;> omega

def blockAt (into : List Int) (quiet can : List Bool) (k : Nat) : Bool := can.getD k false && (((k : Int) == 0) || (into.getD k 0 != 1 || !quiet.getD k false))
def blocksTo (into : List Int) (quiet can : List Bool) : Nat → List Int
  | 0 => []
  | k + 1 => blocksTo into quiet can k ++ if blockAt into quiet can k = true then [(k : Int)] else []
theorem blocksTo_le (into : List Int) (quiet can : List Bool) (k : Nat) : (blocksTo into quiet can k).length ≤ k := by
  induction k with
  | zero => exact Nat.le_refl _
  | succ k ih => unfold blocksTo; split <;> simp <;> omega
noncomputable def blocksL (code : List Ins) : List Int :=
  blocksTo (intoAt (List.replicate code.length 0) (edgesL code)) (quietAt code (List.replicate code.length false) (edgesL code)) (reachL code (-1)) (reachL code (-1)).length

/-- What the loop over the edges leaves: the two lists, their boxes, the function. -/
structure BI (w W : World) (len : Nat) (s : ByteArray) (vp : Value) (regs words : Int) (vc : Value) (into : List Int) (quiet : List Bool) : Prop where
  into : OwnInts W (w.heap.size + 1) (.slice (some ⟨w.heap.size + 1, 0, none⟩) len len) into
  quiet : OwnBools W (w.heap.size + 1) (.slice (some ⟨w.heap.size + 1 + 1 + 1, 0, none⟩) len len) quiet
  bi : W.cell? ⟨w.heap.size + 1 + 1, 0, none⟩ = some (.slice (some ⟨w.heap.size + 1, 0, none⟩) len len)
  bq : W.cell? ⟨w.heap.size + 1 + 1 + 1 + 1, 0, none⟩ = some (.slice (some ⟨w.heap.size + 1 + 1 + 1, 0, none⟩) len len)
  fn : FnAt W w.heap.size s vp regs words vc
  below : Below w.heap.size w W
  size : w.heap.size + 6 ≤ W.heap.size

theorem BI.turn {w W W' : World} {row : Option Nat} {len : Nat} {s : ByteArray} {vp : Value} {regs words : Int} {vc : Value} {into : List Int} {quiet : List Bool} (h : BI w W len s vp regs words vc into quiet) (hg : W.grownBy W' row)
    (hr : ∀ r, row = some r → w.heap.size + 6 ≤ r ∧ ∃ o : Obj, W.heap[r]? = some o ∧ o.isCells = false) : BI w W' len s vp regs words vc into quiet :=
  have hr' : ∀ r, row = some r → ∃ o : Obj, W.heap[r]? = some o ∧ o.isCells = false := fun r e => (hr r e).2
  ⟨ownsRow_turn h.into hg hr', ownsRow_turn h.quiet hg hr', cell_kept h.bi hg hr', cell_kept h.bq hg hr', h.fn.turn hg hr', h.below.grown hg (by have := h.size; omega) (fun k e => by have := (hr k e).1; omega), Nat.le_trans h.size hg.size⟩

abbrev blocksWorld (w : World) (F : Array Value) (len : Nat) : World :=
  (((((w.alloc (.cells F 25)).alloc (.cells (zeroInts len) 3)).alloc (.cells #[.slice (some ⟨w.heap.size + 1, 0, none⟩) len len] 27)).alloc (.cells (zeroBools len) 4)).alloc (.cells #[.slice (some ⟨w.heap.size + 1 + 1 + 1, 0, none⟩) len len] 37)).alloc (.cells F 25)

theorem BI.start (w : World) (len : Nat) (hl : len ≤ 35184372088832) (s : ByteArray) (vp : Value) (regs words : Int) (vc : Value) :
    BI w (blocksWorld w #[.string s, vp, .int .i64 regs, .int .i64 words, vc] len) len s vp regs words vc (List.replicate len 0) (List.replicate len false) := by
  have c : ∀ (W : World) (o : Obj) (k j : Nat) (v : Value), W.cell? ⟨k, j, none⟩ = some v → (W.alloc o).cell? ⟨k, j, none⟩ = some v := fun W o k j v h => (World.cell?_alloc_past _ _ _ (World.block_lt_of_cell? W _ h)).trans h
  refine ⟨?_, ?_, ?_, ?_, ?_, ?_, ?_⟩
  · have := owns_zeroInts (w.alloc (.cells #[.string s, vp, .int .i64 regs, .int .i64 words, vc] 25)) (B := w.heap.size + 1) len (by simp) hl
    rw [World.size_alloc] at this
    exact World.ownsRow.alloc (World.ownsRow.alloc (World.ownsRow.alloc (World.ownsRow.alloc this _) _) _) _
  · have := owns_zeroBools (((w.alloc (.cells #[.string s, vp, .int .i64 regs, .int .i64 words, vc] 25)).alloc (.cells (zeroInts len) 3)).alloc (.cells #[.slice (some ⟨w.heap.size + 1, 0, none⟩) len len] 27)) (B := w.heap.size + 1) len (by (try simp only [World.size_alloc]); (try simp only [size_set]); omega) hl
    simp only [World.size_alloc] at this
    exact World.ownsRow.alloc (World.ownsRow.alloc this _) _
  · refine c _ _ _ _ _ (c _ _ _ _ _ (c _ _ _ _ _ ?_))
    rw [World.cell?_alloc_at _ _ _ _ (by simp)]; rfl
  · refine c _ _ _ _ _ ?_
    rw [World.cell?_alloc_at _ _ _ _ (by simp)]; rfl
  · exact (FnAt.box w s vp regs words vc _).later (((((Below.refl (w.heap.size + 1) _).alloc (by (try simp only [World.size_alloc]); (try simp only [size_set]); omega) _).alloc (by (try simp only [World.size_alloc]); (try simp only [size_set]); omega) _).alloc (by (try simp only [World.size_alloc]); (try simp only [size_set]); omega) _).alloc (by (try simp only [World.size_alloc]); (try simp only [size_set]); omega) _ |>.alloc (by (try simp only [World.size_alloc]); (try simp only [size_set]); omega) _) (Nat.lt_succ_self _)
  · exact (((((Below.refl _ _).alloc (by (try simp only [World.size_alloc]); (try simp only [size_set]); omega) _).alloc (by (try simp only [World.size_alloc]); (try simp only [size_set]); omega) _).alloc (by (try simp only [World.size_alloc]); (try simp only [size_set]); omega) _).alloc (by (try simp only [World.size_alloc]); (try simp only [size_set]); omega) _).alloc (by (try simp only [World.size_alloc]); (try simp only [size_set]); omega) _ |>.alloc (by (try simp only [World.size_alloc]); (try simp only [size_set]); omega) _
  · simp

theorem BI.setInto {w W : World} {len : Nat} {s : ByteArray} {vp : Value} {regs words : Int} {vc : Value} {into : List Int} {quiet : List Bool} (h : BI w W len s vp regs words vc into quiet) (v : Nat) (z : Int) :
    BI w (W.setCell ⟨w.heap.size + 1, v, none⟩ (.int .i64 z)) len s vp regs words vc (into.set v z) quiet :=
  ⟨OwnInts.store h.into v z, ownsRow_setCell_other h.quiet (by simp [Value.ownBlock]; omega) _, (World.cell?_setCell_other _ _ _ _ (by simp)).trans h.bi, (World.cell?_setCell_other _ _ _ _ (by simp)).trans h.bq,
    h.fn.later ((Below.refl (w.heap.size + 1) _).setCell (Nat.le_refl _) _) (Nat.lt_succ_self _), h.below.setCell (by show _ ≤ w.heap.size + 1; omega) _, by rw [size_set]; exact h.size⟩
theorem BI.setQuiet {w W : World} {len : Nat} {s : ByteArray} {vp : Value} {regs words : Int} {vc : Value} {into : List Int} {quiet : List Bool} (h : BI w W len s vp regs words vc into quiet) (v : Nat) (z : Bool) :
    BI w (W.setCell ⟨w.heap.size + 1 + 1 + 1, v, none⟩ (.bool z)) len s vp regs words vc into (quiet.set v z) :=
  ⟨ownsRow_setCell_other h.into (by simp [Value.ownBlock]) _, OwnBools.store h.quiet v z, (World.cell?_setCell_other _ _ _ _ (by simp)).trans h.bi, (World.cell?_setCell_other _ _ _ _ (by simp)).trans h.bq,
    h.fn.later ((Below.refl (w.heap.size + 1 + 1 + 1) _).setCell (Nat.le_refl _) _) (by omega), h.below.setCell (by show _ ≤ w.heap.size + 1 + 1 + 1; omega) _, by rw [size_set]; exact h.size⟩
theorem BI.drew {w W : World} {len : Nat} {s : ByteArray} {vp : Value} {regs words : Int} {vc : Value} {into : List Int} {quiet : List Bool} (h : BI w W len s vp regs words vc into quiet) : BI w W.drew len s vp regs words vc into quiet :=
  ⟨World.ownsRow.drew h.into, World.ownsRow.drew h.quiet, h.bi, h.bq, ⟨h.fn.c0, h.fn.c1, h.fn.c2, h.fn.c3, h.fn.c4⟩, h.below.drew, h.size⟩
theorem BI.later {w W W' : World} {len : Nat} {s : ByteArray} {vp : Value} {regs words : Int} {vc : Value} {into : List Int} {quiet : List Bool} (h : BI w W len s vp regs words vc into quiet) (hb : Below W.heap.size W W') : BI w W' len s vp regs words vc into quiet :=
  have hs := h.size
  ⟨ownsRow_below h.into hb (Nat.le_refl _), ownsRow_below h.quiet hb (Nat.le_refl _), (hb.cell (by show w.heap.size + 1 + 1 < _; omega)).trans h.bi, (hb.cell (by show w.heap.size + 1 + 1 + 1 + 1 < _; omega)).trans h.bq,
    h.fn.later hb (by omega), h.below.trans (hb.mono (by omega)), Nat.le_trans h.size hb.size⟩

theorem KM.setCell {M : World → Nat → Prop} (hMs : ∀ (W : World) (p : Addr) (u : Value) (k : Nat), M (W.setCell p u) k → M W k) {W : World} {p : Addr} (u : Value) (hp : M W p.block) : KM M W (W.setCell p u) :=
  ⟨by rw [size_set]; exact Nat.le_refl _, fun k c e fz hk hm => by rw [Below.heap_setCell _ _ _ _ (fun e => hm (by rw [e]; exact hp))]; exact hk, fun k hk => Or.inl (hMs _ _ _ _ hk), fun h k hk => by rw [size_set]; exact h k (hMs _ _ _ _ hk)⟩
theorem KM.later {M : World → Nat → Prop} {n0 Bf B : Nat} (hM : MFit M n0 Bf B) {W W' : World} (hB : B ≤ W.heap.size) (hb : Below W.heap.size W W') : KM M W W' :=
  ⟨hb.size, fun k c e fz hk _ => by rw [hb.block k (Array.getElem?_eq_some_iff.1 hk).1]; exact hk, fun k hk => Or.inl (hM.step W W' hB (grown_below hb) k hk), fun h k hk => Nat.lt_of_lt_of_le (h k (hM.step W W' hB (grown_below hb) k hk)) hb.size⟩
theorem KM.drew {M : World → Nat → Prop} {n0 Bf B : Nat} (hM : MFit M n0 Bf B) {W : World} (hB : B ≤ W.heap.size) : KM M W W.drew := KM.later hM hB (Below.refl _ _).drew

theorem ints_form {w : World} {B : Nat} {v : Value} {l : List Int} (h : OwnInts w B v l) : ∃ a c, v = .slice a l.length c := by
  rcases h.form with ⟨h1, h2⟩ | ⟨g, c, h1, _⟩
  · exact ⟨none, 0, by rw [h1, h2]; rfl⟩
  · exact ⟨_, _, h1⟩

def blkM (S : Nat) (W : World) (k : Nat) : Prop := k < W.heap.size ∧ (k = S + 1 ∨ k = S + 1 + 1 + 1)
theorem blkM_fit (S Bf B : Nat) (h1 : Bf = S + 5) (h2 : S + 6 ≤ B) : MFit (blkM S) S Bf B := by
  refine ⟨fun W k h => ⟨by rcases h.2 with h | h <;> omega, by rcases h.2 with h | h <;> omega⟩, fun W W' hB _ k h => ⟨by rcases h.2 with h | h <;> omega, h.2⟩, fun W l o o' _ h ho k hk => ⟨by have := hk.1; simpa [World.putObj] using this, hk.2⟩⟩

set_option maxRecDepth 100000 in
set_option maxHeartbeats 8000000 in
theorem blocks_any (s : ByteArray) (vp : Value) (regs words : Int) (vc : Value) (code : List Ins) (w : World) (hlen : code.length * 40 ≤ 140737488351232) (hc : CodeIn w vc code) :
    Calls Try.prog 23 #[fnV s vp regs words vc] w (RetInts (blocksL code) w) := by
  have hc0 := hc
  obtain ⟨-, ca, cap, rfl, -⟩ := hc0
  have Hc := Lib.hid hc
  have Hlen := Lib.hid hlen
  clear hc
  obtain ⟨len, hl⟩ : ∃ len, len = code.length := ⟨_, rfl⟩
  rw [← hl] at hlen ⊢
  have Hl := Lib.hid hl
  clear hl
  have hmi := fun w => make_ints_run len (by omega) w
  have hmb := fun w => make_bools_run len (by omega) w
  refine (callsIn_wide (n := 8)).1 ?_
  refine callsIn_of_wp_marks Try.func23 rfl trivial ?_ rfl
  simp only [Try.ntmps23, List.size_toArray, List.length_cons, List.length_nil, Nat.reduceAdd, Nat.reduceSub, Array.replicate_succ, Array.replicate_zero, List.push_toArray, List.append_toArray, List.nil_append, List.cons_append]
  gi_wp2_with fail
  refine (callsIn_wide.2 (edges_any s vp regs words _ _)).mono ?_
  rintro e w1 ⟨rfl, rfl⟩
  gi_wp2_with fail
  have hBI := BI.start w len (by omega) s vp regs words (.slice ca len cap)
  have hEA : EAt w (blocksWorld w #[.string s, vp, .int .i64 regs, .int .i64 words, .slice ca len cap] len) (w.heap.size + 1 + 1 + 1 + 1 + 1) s vp regs words (.slice ca len cap) := by
    refine ⟨?_, hBI.below.size, fun p u hp hc => (hBI.below.cell hp).trans hc, by simp⟩
    have := FnAt.box ((((((w.alloc (.cells #[.string s, vp, .int .i64 regs, .int .i64 words, .slice ca len cap] 25)).alloc (.cells (zeroInts len) 3)).alloc (.cells #[.slice (some ⟨w.heap.size + 1, 0, none⟩) len len] 27)).alloc (.cells (zeroBools len) 4)).alloc (.cells #[.slice (some ⟨w.heap.size + 1 + 1 + 1, 0, none⟩) len len] 37))) s vp regs words (.slice ca len cap) 25
    simpa using this
  have hstops := edges_stops 7 (w.heap.size + 1 + 1 + 1 + 1 + 1) (by omega) w s vp regs words (.slice ca len cap) code Hlen.out (by rw [Hl.out]; exact Hc.out) (blkM w.heap.size) _ (blkM_fit _ _ _ rfl (by simp)) hEA (fun k hk => hk.1)
  apply wpIn_rangeFunc_ownG (F := Fence.wide) (n := 8) rfl (by omega) (gf := 38) (lb := #[.pointer (some ⟨w.heap.size + 1 + 1 + 1 + 1 + 1, 0, none⟩)]) rfl trivial (enters_of Try.func38 (by kernel_rfl) rfl) hstops
    (fun h k => h.trans k) (fun W l o o' hl h ho _ => KM.put (blkM_fit w.heap.size _ (w.heap.size + 6) rfl (Nat.le_refl _)) W l o o' (by simp at hl; omega) h ho) (Below.refl _ _) (fun _ => rfl)
    (fun pre W => BI w W len s vp regs words (.slice ca len cap) (intoAt (List.replicate len 0) (pre.map (·.1))) (quietAt code (List.replicate len false) (pre.map (·.1))))
    (fun _ _ _ => False)
  case hI => exact fun q A B row h hg hr => h.turn hg (fun r e => by have := hr r e; simp at this; exact ⟨by omega, this.2⟩)
  case hIx => exact fun _ _ _ _ _ hs _ _ => hs
  case h0 => exact hBI
  case hassign =>
    intro l x W K hK
    gi_wp2
    exact hK
  case hbody =>
    rintro l pre ⟨⟨u, v⟩, hx⟩ W hB hlt
    obtain ⟨m1, m2, m3, m4, m5, m6, _, _⟩ := edgesL_mem hx
    simp only at m1 m2 m3 m4 m5
    obtain ⟨u, rfl⟩ := Int.eq_ofNat_of_zero_le m1
    obtain ⟨v, rfl⟩ := Int.eq_ofNat_of_zero_le m3
    have hvl : v < len := by rw [Hl.out]; omega
    have hul : u < len := by rw [Hl.out]; omega
    have hb1024 : len ≤ 1024 := by rw [Hl.out]; simp [hasB] at m6; exact m6.2
    have hpl : pre.length ≤ 2048 := by
      have h1 := edgesTo_len code (reachL code (-1)) (reachL code (-1)).length
      rw [reachL_length, if_pos m6, ← Hl.out] at h1
      have h2 : (edgesL code).length ≤ 2 * len := by unfold edgesL; rw [reachL_length, if_pos m6, ← Hl.out]; exact h1
      omega
    obtain ⟨into, hinto⟩ : ∃ into, into = intoAt (List.replicate len 0) (pre.map (·.1)) := ⟨_, rfl⟩
    obtain ⟨quiet, hquiet⟩ : ∃ quiet, quiet = quietAt code (List.replicate len false) (pre.map (·.1)) := ⟨_, rfl⟩
    have hil : into.length = len := by rw [hinto, intoAt_length]; simp
    have hql : quiet.length = len := by rw [hquiet, quietAt_length]; simp
    have hib := intoAt_bound len (pre.map (·.1)) v
    rw [← hinto] at hib
    rw [← hinto, ← hquiet] at hB
    obtain ⟨z, hz⟩ : ∃ z, z = into.getD v 0 := ⟨_, rfl⟩
    rw [← hz] at hib
    simp only [List.length_map] at hib
    have hcz : W.cell? ⟨w.heap.size + 1, v, none⟩ = some (.int .i64 z) := by rw [hz]; exact OwnInts.cell hB.into (by rw [hil]; exact hvl)
    have hfz : W.frozen? ⟨w.heap.size + 1, v, none⟩ = false := OwnInts.free hB.into v
    have hcq : W.cell? ⟨w.heap.size + 1 + 1 + 1, v, none⟩ = some (.bool (quiet.getD v false)) := OwnBools.cell hB.quiet (by rw [hql]; exact hvl)
    have hfq : W.frozen? ⟨w.heap.size + 1 + 1 + 1, v, none⟩ = false := OwnBools.free hB.quiet v
    have hbi := hB.bi
    have hbq := hB.bq
    obtain ⟨f0, f1, f2, f3, f4⟩ := hB.fn
    obtain ⟨hz0, hz1⟩ := hib
    have Hx := Lib.hid hx
    have HB := Lib.hid hB
    have Hql := Lib.hid hql
    have Hinto := Lib.hid hinto
    have Hquiet := Lib.hid hquiet
    have Hz := Lib.hid hz
    have Hm5 := Lib.hid m5
    clear hB hinto hquiet hz m5 hil hql m6 hlt hstops hEA hBI
    have hMs : ∀ (W : World) (p : Addr) (u : Value) (k : Nat), blkM w.heap.size (W.setCell p u) k → blkM w.heap.size W k := fun W p u k hk => ⟨by have := hk.1; rw [size_set] at this; exact this, hk.2⟩
    have hfit := blkM_fit w.heap.size (w.heap.size + 5) (w.heap.size + 6) rfl (Nat.le_refl _)
    have hWs := HB.out.size
    have hstep1 : KeepsFrom (w.heap.size + 6) W (W.setCell ⟨w.heap.size + 1, v, none⟩ (.int .i64 (z + 1))) ∧ KM (blkM w.heap.size) W (W.setCell ⟨w.heap.size + 1, v, none⟩ (.int .i64 (z + 1))) ∧
        BI w (W.setCell ⟨w.heap.size + 1, v, none⟩ (.int .i64 (z + 1))) len s vp regs words (.slice ca len cap) (into.set v (z + 1)) quiet :=
      ⟨(KeepsOthers.setCell _ _ _).from _, KM.setCell hMs _ ⟨by show w.heap.size + 1 < _; omega, Or.inl rfl⟩, HB.out.setInto v (z + 1)⟩
    have hdrew : ∀ W2 : World, W.heap.size ≤ W2.heap.size → ∀ es : List Edge, KeepsFrom (w.heap.size + 6) W W2 ∧ KM (blkM w.heap.size) W W2 ∧ BI w W2 len s vp regs words (.slice ca len cap) (intoAt (List.replicate len 0) es) (quietAt code (List.replicate len false) es) →
        KeepsFrom (w.heap.size + 6) W W2.drew ∧ KM (blkM w.heap.size) W W2.drew ∧ BI w W2.drew len s vp regs words (.slice ca len cap) (intoAt (List.replicate len 0) es) (quietAt code (List.replicate len false) es) :=
      fun W2 hs es h => ⟨h.1.trans ((KeepsOthers.drew _).from _), h.2.1.trans (KM.drew hfit (by omega)), h.2.2.drew⟩
    have HD := Lib.hid hdrew
    have e6 : (blocksWorld w #[.string s, vp, .int .i64 regs, .int .i64 words, .slice ca len cap] len).heap.size = w.heap.size + 6 := by simp
    have E6 := Lib.hid e6
    have hfin : ∀ (W2 : World) (b : Bool), KeepsFrom (w.heap.size + 6) W W2 → KM (blkM w.heap.size) W W2 → BI w W2 len s vp regs words (.slice ca len cap) (into.set v (z + 1)) quiet → b = (quiet.getD v false || quietOne code ((u : Int), (v : Int))) →
        KeepsFrom (w.heap.size + 6) W (W2.setCell ⟨w.heap.size + 1 + 1 + 1, v, none⟩ (.bool b)) ∧ KM (blkM w.heap.size) W (W2.setCell ⟨w.heap.size + 1 + 1 + 1, v, none⟩ (.bool b)) ∧
        BI w (W2.setCell ⟨w.heap.size + 1 + 1 + 1, v, none⟩ (.bool b)) len s vp regs words (.slice ca len cap) (intoAt (List.replicate len 0) ((pre ++ [(⟨((u : Int), (v : Int)), hx⟩ : EdgeOf code)]).map (·.1))) (quietAt code (List.replicate len false) ((pre ++ [(⟨((u : Int), (v : Int)), hx⟩ : EdgeOf code)]).map (·.1))) := by
      intro W2 b h1 h2 h3 h4
      refine ⟨h1.trans ((KeepsOthers.setCell _ _ _).from _), h2.trans (KM.setCell hMs _ ⟨by show w.heap.size + 1 + 1 + 1 < _; have := h3.size; omega, Or.inr rfl⟩), ?_⟩
      rw [List.map_append, List.map_singleton, intoAt_snoc, quietAt_snoc, ← Hinto.out, ← Hquiet.out]
      simp only [Int.toNat_natCast]
      rw [← h4, ← Hz.out]
      exact h3.setQuiet v b
    have Hstep1 := Lib.hid hstep1
    have Hfit := Lib.hid hfit
    have HF := Lib.hid hfin
    clear hstep1 hfin hMs hfit hdrew e6
    have hwv : IntKind.i64.wrap ((v : Int) - 1) = (v : Int) - 1 := IntWalk.i64_in _ (by omega)
    cases hq : quiet.getD v false
    · rw [hq] at hcq
      have Hq := Lib.hid hq
      clear hq
      cases huv : ((u : Int) == (v : Int) - 1)
      · have hne : ¬ (u : Int) = (v : Int) - 1 := by simpa using huv
        have Hfin := Lib.hid (HD.out _ (by (try simp only [World.size_alloc]); (try simp only [size_set]); omega) _ (HF.out _ false Hstep1.out.1 Hstep1.out.2.1 Hstep1.out.2.2 (by rw [Hq.out]; simp [quietOne]; intro h; simp [h] at huv)))
        gi_wp2
        refine wpIn_region_as_any (by kernel_rfl) (by kernel_rfl) (by rintro ⟨a, w, h⟩; exact h) ?_
        refine wpAny_take (i := 1) rfl (by kernel_rfl) (by kernel_rfl) (by kernel_rfl) (fun _ _ _ h => h) (Or.inl ⟨by rfl, fun w => by go_simp; try rfl⟩) ?_
        refine wpAny_take (i := 3) rfl (by kernel_rfl) (by kernel_rfl) (by kernel_rfl) (fun _ _ _ h => h) (Or.inl ⟨by rfl, fun w => by go_simp; try rfl⟩) ?_
        refine wpAny_ready (rs := [0, 2]) (by kernel_rfl) (by simp) ?_
        refine AllReady.cons rfl (fun K hK => ?_) ?_
        · go_simp
          refine hK _ _ ?_
          clear hK K
          refine wpAny_ready (rs := [2]) (by kernel_rfl) (by simp) ?_
          refine AllReady.cons rfl (fun K hK => ?_) ?_
          · go_simp
            refine hK _ _ ?_
            clear hK K
            refine wpAny_take (i := 4) rfl (by kernel_rfl) (by kernel_rfl) (by kernel_rfl) (fun _ _ _ h => h) (Or.inl ⟨by rfl, fun w => by go_simp; try rfl⟩) ?_
            refine wpAny_ready (rs := [5]) (by kernel_rfl) (by simp) ?_
            refine AllReady.cons rfl (fun K hK => ?_) ?_
            · go_simp
              refine hK _ _ ?_
              clear hK K
              refine wpAny_take (i := 6) rfl (by kernel_rfl) (by kernel_rfl) (by kernel_rfl) (fun _ _ _ h => h) (Or.inl ⟨by rfl, fun w => by go_simp; try rfl⟩) ?_
              refine wpAny_take (i := 7) rfl (by kernel_rfl) (by kernel_rfl) (by kernel_rfl) (fun _ _ _ h => h) (Or.inl ⟨by go_simp, fun w => by go_simp; try rfl⟩) ?_
              refine wpAny_take (i := 8) rfl (by kernel_rfl) (by kernel_rfl) (by kernel_rfl) (fun _ _ _ h => h) (Or.inl ⟨by go_simp, fun w => by go_simp; try rfl⟩) ?_
              refine wpAny_take (i := 9) rfl (by kernel_rfl) (by kernel_rfl) (by kernel_rfl) (fun _ _ _ h => h) (Or.inl ⟨by go_simp, fun w => by go_simp; try rfl⟩) ?_
              refine wpAny_take (i := 10) rfl (by kernel_rfl) (by kernel_rfl) (by kernel_rfl) (fun _ _ _ h => h) (Or.inl ⟨by go_simp, fun w => by go_simp; try rfl⟩) ?_
              refine wpAny_take (i := 11) rfl (by kernel_rfl) (by kernel_rfl) (by kernel_rfl) (fun _ _ _ h => h) (Or.inl ⟨by go_simp, fun w => by go_simp; try rfl⟩) ?_
              refine wpAny_take (i := 12) rfl (by kernel_rfl) (by kernel_rfl) (by kernel_rfl) (fun _ _ _ h => h) (Or.inr ⟨by go_simp, rfl⟩) ?_
              refine wpAny_take (i := 13) rfl (by kernel_rfl) (by kernel_rfl) (by kernel_rfl) (fun _ _ _ h => h) (Or.inr ⟨by go_simp, rfl⟩) ?_
              refine wpAny_take (i := 14) rfl (by kernel_rfl) (by kernel_rfl) (by kernel_rfl) (fun _ _ _ h => h) (Or.inr ⟨by go_simp, rfl⟩) ?_
              refine wpAny_take (i := 15) rfl (by kernel_rfl) (by kernel_rfl) (by kernel_rfl) (fun _ _ _ h => h) (Or.inr ⟨by go_simp, rfl⟩) ?_
              refine wpAny_take (i := 16) rfl (by kernel_rfl) (by kernel_rfl) (by kernel_rfl) (fun _ _ _ h => h) (Or.inr ⟨by go_simp, rfl⟩) ?_
              refine wpAny_take (i := 17) rfl (by kernel_rfl) (by kernel_rfl) (by kernel_rfl) (fun _ _ _ h => h) (Or.inl ⟨by go_simp, fun w => by go_simp; try rfl⟩) ?_
              refine wpAny_take (i := 18) rfl (by kernel_rfl) (by kernel_rfl) (by kernel_rfl) (fun _ _ _ h => h) (Or.inl ⟨by rfl, fun w => by go_simp; try rfl⟩) ?_
              refine wpAny_take (i := 19) rfl (by kernel_rfl) (by kernel_rfl) (by kernel_rfl) (fun _ _ _ h => h) (Or.inl ⟨by rfl, fun w => by go_simp; try rfl⟩) ?_
              refine wpAny_ready (rs := [20]) (by kernel_rfl) (by simp) ?_
              refine AllReady.cons rfl (fun K hK => ?_) ?_
              · go_simp
                refine hK _ _ ?_
                clear hK K
                refine wpAny_done (by kernel_rfl) ?_ _
                (gi_wp2; rw [E6.out]; exact Hfin.out)
              exact AllReady.nil
            exact AllReady.nil
          exact AllReady.nil
        refine AllReady.cons rfl (fun K hK => ?_) ?_
        · go_simp
          refine hK _ _ ?_
          clear hK K
          refine wpAny_take (i := 4) rfl (by kernel_rfl) (by kernel_rfl) (by kernel_rfl) (fun _ _ _ h => h) (Or.inl ⟨by rfl, fun w => by go_simp; try rfl⟩) ?_
          refine wpAny_ready (rs := [0, 5]) (by kernel_rfl) (by simp) ?_
          refine AllReady.cons rfl (fun K hK => ?_) ?_
          · go_simp
            refine hK _ _ ?_
            clear hK K
            refine wpAny_ready (rs := [5]) (by kernel_rfl) (by simp) ?_
            refine AllReady.cons rfl (fun K hK => ?_) ?_
            · go_simp
              refine hK _ _ ?_
              clear hK K
              refine wpAny_take (i := 6) rfl (by kernel_rfl) (by kernel_rfl) (by kernel_rfl) (fun _ _ _ h => h) (Or.inl ⟨by rfl, fun w => by go_simp; try rfl⟩) ?_
              refine wpAny_take (i := 7) rfl (by kernel_rfl) (by kernel_rfl) (by kernel_rfl) (fun _ _ _ h => h) (Or.inl ⟨by go_simp, fun w => by go_simp; try rfl⟩) ?_
              refine wpAny_take (i := 8) rfl (by kernel_rfl) (by kernel_rfl) (by kernel_rfl) (fun _ _ _ h => h) (Or.inl ⟨by go_simp, fun w => by go_simp; try rfl⟩) ?_
              refine wpAny_take (i := 9) rfl (by kernel_rfl) (by kernel_rfl) (by kernel_rfl) (fun _ _ _ h => h) (Or.inl ⟨by go_simp, fun w => by go_simp; try rfl⟩) ?_
              refine wpAny_take (i := 10) rfl (by kernel_rfl) (by kernel_rfl) (by kernel_rfl) (fun _ _ _ h => h) (Or.inl ⟨by go_simp, fun w => by go_simp; try rfl⟩) ?_
              refine wpAny_take (i := 11) rfl (by kernel_rfl) (by kernel_rfl) (by kernel_rfl) (fun _ _ _ h => h) (Or.inl ⟨by go_simp, fun w => by go_simp; try rfl⟩) ?_
              refine wpAny_take (i := 12) rfl (by kernel_rfl) (by kernel_rfl) (by kernel_rfl) (fun _ _ _ h => h) (Or.inr ⟨by go_simp, rfl⟩) ?_
              refine wpAny_take (i := 13) rfl (by kernel_rfl) (by kernel_rfl) (by kernel_rfl) (fun _ _ _ h => h) (Or.inr ⟨by go_simp, rfl⟩) ?_
              refine wpAny_take (i := 14) rfl (by kernel_rfl) (by kernel_rfl) (by kernel_rfl) (fun _ _ _ h => h) (Or.inr ⟨by go_simp, rfl⟩) ?_
              refine wpAny_take (i := 15) rfl (by kernel_rfl) (by kernel_rfl) (by kernel_rfl) (fun _ _ _ h => h) (Or.inr ⟨by go_simp, rfl⟩) ?_
              refine wpAny_take (i := 16) rfl (by kernel_rfl) (by kernel_rfl) (by kernel_rfl) (fun _ _ _ h => h) (Or.inr ⟨by go_simp, rfl⟩) ?_
              refine wpAny_take (i := 17) rfl (by kernel_rfl) (by kernel_rfl) (by kernel_rfl) (fun _ _ _ h => h) (Or.inl ⟨by go_simp, fun w => by go_simp; try rfl⟩) ?_
              refine wpAny_take (i := 18) rfl (by kernel_rfl) (by kernel_rfl) (by kernel_rfl) (fun _ _ _ h => h) (Or.inl ⟨by rfl, fun w => by go_simp; try rfl⟩) ?_
              refine wpAny_take (i := 19) rfl (by kernel_rfl) (by kernel_rfl) (by kernel_rfl) (fun _ _ _ h => h) (Or.inl ⟨by rfl, fun w => by go_simp; try rfl⟩) ?_
              refine wpAny_ready (rs := [20]) (by kernel_rfl) (by simp) ?_
              refine AllReady.cons rfl (fun K hK => ?_) ?_
              · go_simp
                refine hK _ _ ?_
                clear hK K
                refine wpAny_done (by kernel_rfl) ?_ _
                (gi_wp2; rw [E6.out]; exact Hfin.out)
              exact AllReady.nil
            exact AllReady.nil
          refine AllReady.cons rfl (fun K hK => ?_) ?_
          · go_simp
            refine hK _ _ ?_
            clear hK K
            refine wpAny_take (i := 6) rfl (by kernel_rfl) (by kernel_rfl) (by kernel_rfl) (fun _ _ _ h => h) (Or.inl ⟨by rfl, fun w => by go_simp; try rfl⟩) ?_
            refine wpAny_take (i := 7) rfl (by kernel_rfl) (by kernel_rfl) (by kernel_rfl) (fun _ _ _ h => h) (Or.inl ⟨by go_simp, fun w => by go_simp; try rfl⟩) ?_
            refine wpAny_take (i := 8) rfl (by kernel_rfl) (by kernel_rfl) (by kernel_rfl) (fun _ _ _ h => h) (Or.inl ⟨by go_simp, fun w => by go_simp; try rfl⟩) ?_
            refine wpAny_take (i := 9) rfl (by kernel_rfl) (by kernel_rfl) (by kernel_rfl) (fun _ _ _ h => h) (Or.inl ⟨by go_simp, fun w => by go_simp; try rfl⟩) ?_
            refine wpAny_take (i := 10) rfl (by kernel_rfl) (by kernel_rfl) (by kernel_rfl) (fun _ _ _ h => h) (Or.inl ⟨by go_simp, fun w => by go_simp; try rfl⟩) ?_
            refine wpAny_take (i := 11) rfl (by kernel_rfl) (by kernel_rfl) (by kernel_rfl) (fun _ _ _ h => h) (Or.inl ⟨by go_simp, fun w => by go_simp; try rfl⟩) ?_
            refine wpAny_take (i := 12) rfl (by kernel_rfl) (by kernel_rfl) (by kernel_rfl) (fun _ _ _ h => h) (Or.inr ⟨by go_simp, rfl⟩) ?_
            refine wpAny_take (i := 13) rfl (by kernel_rfl) (by kernel_rfl) (by kernel_rfl) (fun _ _ _ h => h) (Or.inr ⟨by go_simp, rfl⟩) ?_
            refine wpAny_take (i := 14) rfl (by kernel_rfl) (by kernel_rfl) (by kernel_rfl) (fun _ _ _ h => h) (Or.inr ⟨by go_simp, rfl⟩) ?_
            refine wpAny_take (i := 15) rfl (by kernel_rfl) (by kernel_rfl) (by kernel_rfl) (fun _ _ _ h => h) (Or.inr ⟨by go_simp, rfl⟩) ?_
            refine wpAny_take (i := 16) rfl (by kernel_rfl) (by kernel_rfl) (by kernel_rfl) (fun _ _ _ h => h) (Or.inr ⟨by go_simp, rfl⟩) ?_
            refine wpAny_take (i := 17) rfl (by kernel_rfl) (by kernel_rfl) (by kernel_rfl) (fun _ _ _ h => h) (Or.inl ⟨by go_simp, fun w => by go_simp; try rfl⟩) ?_
            refine wpAny_take (i := 18) rfl (by kernel_rfl) (by kernel_rfl) (by kernel_rfl) (fun _ _ _ h => h) (Or.inl ⟨by rfl, fun w => by go_simp; try rfl⟩) ?_
            refine wpAny_ready (rs := [0]) (by kernel_rfl) (by simp) ?_
            refine AllReady.cons rfl (fun K hK => ?_) ?_
            · go_simp
              refine hK _ _ ?_
              clear hK K
              refine wpAny_take (i := 19) rfl (by kernel_rfl) (by kernel_rfl) (by kernel_rfl) (fun _ _ _ h => h) (Or.inl ⟨by rfl, fun w => by go_simp; try rfl⟩) ?_
              refine wpAny_ready (rs := [20]) (by kernel_rfl) (by simp) ?_
              refine AllReady.cons rfl (fun K hK => ?_) ?_
              · go_simp
                refine hK _ _ ?_
                clear hK K
                refine wpAny_done (by kernel_rfl) ?_ _
                (gi_wp2; rw [E6.out]; exact Hfin.out)
              exact AllReady.nil
            exact AllReady.nil
          exact AllReady.nil
        exact AllReady.nil
      · have heq : (u : Int) = (v : Int) - 1 := by simpa using huv
        have Heq := Lib.hid heq
        clear heq
        have Hcd : Hid (CodeIn (W.setCell ⟨w.heap.size + 1, v, none⟩ (.int .i64 (z + 1))).drew (.slice ca len cap) code) := by
          show CodeIn _ _ _
          rw [Hl.out]; exact SliceIn.later Hc.out Hstep1.out.2.2.drew.below
        obtain ⟨nl, hnl⟩ : ∃ nl, nl = (nextL code u).length := ⟨_, rfl⟩
        have Hnl : Hid ((nextL code u).length = nl) := hnl.symm
        have hnl2 : nl ≤ 2 := by rw [hnl]; exact nextL_len _ _
        clear hnl
        have hC : ∀ w2 : World, Below (W.setCell ⟨w.heap.size + 1, v, none⟩ (.int .i64 (z + 1))).drew.heap.size (W.setCell ⟨w.heap.size + 1, v, none⟩ (.int .i64 (z + 1))).drew w2 →
            ((w2.cell? ⟨w.heap.size + 1 + 1 + 1 + 1, 0, none⟩ = some (.slice (some ⟨w.heap.size + 1 + 1 + 1, 0, none⟩) len len) ∧ w2.frozen? ⟨w.heap.size + 1 + 1 + 1, v, none⟩ = false) ∧ w2.cell? ⟨w.heap.size + 1 + 1 + 1, v, none⟩ = some (.bool false)) ∧
            (KeepsFrom (w.heap.size + 6) W (w2.setCell ⟨w.heap.size + 1 + 1 + 1, v, none⟩ (.bool ((nl : Int) == 1))) ∧ KM (blkM w.heap.size) W (w2.setCell ⟨w.heap.size + 1 + 1 + 1, v, none⟩ (.bool ((nl : Int) == 1))) ∧
              BI w (w2.setCell ⟨w.heap.size + 1 + 1 + 1, v, none⟩ (.bool ((nl : Int) == 1))) len s vp regs words (.slice ca len cap) (intoAt (List.replicate len 0) ((pre ++ [(⟨((u : Int), (v : Int)), hx⟩ : EdgeOf code)]).map (·.1))) (quietAt code (List.replicate len false) ((pre ++ [(⟨((u : Int), (v : Int)), hx⟩ : EdgeOf code)]).map (·.1)))) := by
          intro w2 hb
          have h3 := Hstep1.out.2.2.drew.later hb
          have hq3 : w2.cell? ⟨w.heap.size + 1 + 1 + 1, v, none⟩ = some (.bool (quiet.getD v false)) := OwnBools.cell h3.quiet (by rw [Hql.out]; exact hvl)
          have hsz : (W.setCell ⟨w.heap.size + 1, v, none⟩ (.int .i64 (z + 1))).drew.heap.size = W.heap.size := size_set _ _ _
          refine ⟨⟨⟨h3.bq, OwnBools.free h3.quiet v⟩, by rw [hq3, Hq.out]⟩, HF.out w2 _ ?_ ?_ h3 ?_⟩
          · exact Hstep1.out.1.trans (((KeepsOthers.drew _).from _).trans (KeepsFrom.of_grownBy (grown_below hb) (by intro j e; cases e)))
          · exact Hstep1.out.2.1.trans ((KM.drew Hfit.out (by (try simp only [World.size_alloc]); (try simp only [size_set]); omega)).trans (KM.later Hfit.out (by rw [hsz]; exact hWs) hb))
          · rw [Hq.out, Bool.false_or, quietOne, Hnl.out, decide_eq_true Heq.out, Bool.true_and, Bool.eq_iff_iff]
            simp; omega
        have HC := Lib.hid hC
        clear hC
        gi_wp2
        refine wpIn_region_as_any (by kernel_rfl) (by kernel_rfl) (by rintro ⟨a, w, h⟩; exact h) ?_
        refine wpAny_take (i := 1) rfl (by kernel_rfl) (by kernel_rfl) (by kernel_rfl) (fun _ _ _ h => h) (Or.inl ⟨by rfl, fun w => by go_simp; try rfl⟩) ?_
        refine wpAny_take (i := 3) rfl (by kernel_rfl) (by kernel_rfl) (by kernel_rfl) (fun _ _ _ h => h) (Or.inl ⟨by rfl, fun w => by go_simp; try rfl⟩) ?_
        refine wpAny_ready (rs := [0, 2]) (by kernel_rfl) (by simp) ?_
        refine AllReady.cons rfl (fun K hK => ?_) ?_
        · go_simp
          refine hK _ _ ?_
          clear hK K
          refine wpAny_ready (rs := [2]) (by kernel_rfl) (by simp) ?_
          refine AllReady.cons rfl (fun K hK => ?_) ?_
          · go_simp
            refine hK _ _ ?_
            clear hK K
            refine wpAny_take (i := 4) rfl (by kernel_rfl) (by kernel_rfl) (by kernel_rfl) (fun _ _ _ h => h) (Or.inl ⟨by rfl, fun w => by go_simp; try rfl⟩) ?_
            refine wpAny_ready (rs := [5]) (by kernel_rfl) (by simp) ?_
            refine AllReady.cons rfl (fun K hK => ?_) ?_
            · go_simp
              refine hK _ _ ?_
              clear hK K
              refine wpAny_take (i := 6) rfl (by kernel_rfl) (by kernel_rfl) (by kernel_rfl) (fun _ _ _ h => h) (Or.inl ⟨by rfl, fun w => by go_simp; try rfl⟩) ?_
              refine wpAny_take (i := 7) rfl (by kernel_rfl) (by kernel_rfl) (by kernel_rfl) (fun _ _ _ h => h) (Or.inl ⟨by go_simp, fun w => by go_simp; try rfl⟩) ?_
              refine wpAny_take (i := 8) rfl (by kernel_rfl) (by kernel_rfl) (by kernel_rfl) (fun _ _ _ h => h) (Or.inl ⟨by go_simp, fun w => by go_simp; try rfl⟩) ?_
              refine wpAny_take (i := 9) rfl (by kernel_rfl) (by kernel_rfl) (by kernel_rfl) (fun _ _ _ h => h) (Or.inl ⟨by go_simp, fun w => by go_simp; try rfl⟩) ?_
              refine wpAny_take (i := 10) rfl (by kernel_rfl) (by kernel_rfl) (by kernel_rfl) (fun _ _ _ h => h) (Or.inl ⟨by go_simp, fun w => by go_simp; try rfl⟩) ?_
              refine wpAny_take (i := 11) rfl (by kernel_rfl) (by kernel_rfl) (by kernel_rfl) (fun _ _ _ h => h) (Or.inl ⟨by go_simp, fun w => by go_simp; try rfl⟩) ?_
              refine wpAny_take (i := 13) rfl (by kernel_rfl) (by kernel_rfl) (by kernel_rfl) (fun _ _ _ h => h) (Or.inl ⟨by go_simp, fun w => by go_simp; try rfl⟩) ?_
              refine wpAny_ready (rs := [12]) (by kernel_rfl) (by simp) ?_
              refine AllReady.cons rfl (fun K hK => ?_) ?_
              · go_simp
                refine hK _ _ ?_
                clear hK K
                refine wpAny_ready (rs := [14]) (by kernel_rfl) (by simp) ?_
                refine AllReady.cons rfl (fun K hK => ?_) ?_
                · go_simp
                  refine (next_any s vp regs words _ code _ _ Hlen.out Hcd.out).mono ?_
                  rintro e w2 ⟨v9, rfl, hv9, hb9⟩
                  obtain ⟨a9, c9, hv9f⟩ := ints_form hv9
                  rw [Hnl.out] at hv9f; subst hv9f; have hcd2 := HC.out _ hb9
                  obtain ⟨⟨⟨hbq2, hfq2⟩, hcq2⟩, hFin⟩ := hcd2
                  have HFin := Lib.hid hFin
                  clear hFin hv9 hb9
                  refine hK _ _ ?_
                  clear hK K
                  refine wpAny_take (i := 15) rfl (by kernel_rfl) (by kernel_rfl) (by kernel_rfl) (fun _ _ _ h => h) (Or.inl ⟨by go_simp, fun w => by go_simp; try rfl⟩) ?_
                  refine wpAny_take (i := 16) rfl (by kernel_rfl) (by kernel_rfl) (by kernel_rfl) (fun _ _ _ h => h) (Or.inl ⟨by go_simp, fun w => by go_simp; try rfl⟩) ?_
                  refine wpAny_take (i := 17) rfl (by kernel_rfl) (by kernel_rfl) (by kernel_rfl) (fun _ _ _ h => h) (Or.inl ⟨by go_simp, fun w => by go_simp; try rfl⟩) ?_
                  refine wpAny_take (i := 18) rfl (by kernel_rfl) (by kernel_rfl) (by kernel_rfl) (fun _ _ _ h => h) (Or.inl ⟨by rfl, fun w => by go_simp; try rfl⟩) ?_
                  refine wpAny_take (i := 19) rfl (by kernel_rfl) (by kernel_rfl) (by kernel_rfl) (fun _ _ _ h => h) (Or.inl ⟨by rfl, fun w => by go_simp; try rfl⟩) ?_
                  refine wpAny_ready (rs := [20]) (by kernel_rfl) (by simp) ?_
                  refine AllReady.cons rfl (fun K hK => ?_) ?_
                  · go_simp
                    refine hK _ _ ?_
                    clear hK K
                    refine wpAny_done (by kernel_rfl) ?_ _
                    (gi_wp2; rw [E6.out]; exact HFin.out)
                  exact AllReady.nil
                exact AllReady.nil
              exact AllReady.nil
            exact AllReady.nil
          exact AllReady.nil
        refine AllReady.cons rfl (fun K hK => ?_) ?_
        · go_simp
          refine hK _ _ ?_
          clear hK K
          refine wpAny_take (i := 4) rfl (by kernel_rfl) (by kernel_rfl) (by kernel_rfl) (fun _ _ _ h => h) (Or.inl ⟨by rfl, fun w => by go_simp; try rfl⟩) ?_
          refine wpAny_ready (rs := [0, 5]) (by kernel_rfl) (by simp) ?_
          refine AllReady.cons rfl (fun K hK => ?_) ?_
          · go_simp
            refine hK _ _ ?_
            clear hK K
            refine wpAny_ready (rs := [5]) (by kernel_rfl) (by simp) ?_
            refine AllReady.cons rfl (fun K hK => ?_) ?_
            · go_simp
              refine hK _ _ ?_
              clear hK K
              refine wpAny_take (i := 6) rfl (by kernel_rfl) (by kernel_rfl) (by kernel_rfl) (fun _ _ _ h => h) (Or.inl ⟨by rfl, fun w => by go_simp; try rfl⟩) ?_
              refine wpAny_take (i := 7) rfl (by kernel_rfl) (by kernel_rfl) (by kernel_rfl) (fun _ _ _ h => h) (Or.inl ⟨by go_simp, fun w => by go_simp; try rfl⟩) ?_
              refine wpAny_take (i := 8) rfl (by kernel_rfl) (by kernel_rfl) (by kernel_rfl) (fun _ _ _ h => h) (Or.inl ⟨by go_simp, fun w => by go_simp; try rfl⟩) ?_
              refine wpAny_take (i := 9) rfl (by kernel_rfl) (by kernel_rfl) (by kernel_rfl) (fun _ _ _ h => h) (Or.inl ⟨by go_simp, fun w => by go_simp; try rfl⟩) ?_
              refine wpAny_take (i := 10) rfl (by kernel_rfl) (by kernel_rfl) (by kernel_rfl) (fun _ _ _ h => h) (Or.inl ⟨by go_simp, fun w => by go_simp; try rfl⟩) ?_
              refine wpAny_take (i := 11) rfl (by kernel_rfl) (by kernel_rfl) (by kernel_rfl) (fun _ _ _ h => h) (Or.inl ⟨by go_simp, fun w => by go_simp; try rfl⟩) ?_
              refine wpAny_take (i := 13) rfl (by kernel_rfl) (by kernel_rfl) (by kernel_rfl) (fun _ _ _ h => h) (Or.inl ⟨by go_simp, fun w => by go_simp; try rfl⟩) ?_
              refine wpAny_ready (rs := [12]) (by kernel_rfl) (by simp) ?_
              refine AllReady.cons rfl (fun K hK => ?_) ?_
              · go_simp
                refine hK _ _ ?_
                clear hK K
                refine wpAny_ready (rs := [14]) (by kernel_rfl) (by simp) ?_
                refine AllReady.cons rfl (fun K hK => ?_) ?_
                · go_simp
                  refine (next_any s vp regs words _ code _ _ Hlen.out Hcd.out).mono ?_
                  rintro e w2 ⟨v9, rfl, hv9, hb9⟩
                  obtain ⟨a9, c9, hv9f⟩ := ints_form hv9
                  rw [Hnl.out] at hv9f; subst hv9f; have hcd2 := HC.out _ hb9
                  obtain ⟨⟨⟨hbq2, hfq2⟩, hcq2⟩, hFin⟩ := hcd2
                  have HFin := Lib.hid hFin
                  clear hFin hv9 hb9
                  refine hK _ _ ?_
                  clear hK K
                  refine wpAny_take (i := 15) rfl (by kernel_rfl) (by kernel_rfl) (by kernel_rfl) (fun _ _ _ h => h) (Or.inl ⟨by go_simp, fun w => by go_simp; try rfl⟩) ?_
                  refine wpAny_take (i := 16) rfl (by kernel_rfl) (by kernel_rfl) (by kernel_rfl) (fun _ _ _ h => h) (Or.inl ⟨by go_simp, fun w => by go_simp; try rfl⟩) ?_
                  refine wpAny_take (i := 17) rfl (by kernel_rfl) (by kernel_rfl) (by kernel_rfl) (fun _ _ _ h => h) (Or.inl ⟨by go_simp, fun w => by go_simp; try rfl⟩) ?_
                  refine wpAny_take (i := 18) rfl (by kernel_rfl) (by kernel_rfl) (by kernel_rfl) (fun _ _ _ h => h) (Or.inl ⟨by rfl, fun w => by go_simp; try rfl⟩) ?_
                  refine wpAny_take (i := 19) rfl (by kernel_rfl) (by kernel_rfl) (by kernel_rfl) (fun _ _ _ h => h) (Or.inl ⟨by rfl, fun w => by go_simp; try rfl⟩) ?_
                  refine wpAny_ready (rs := [20]) (by kernel_rfl) (by simp) ?_
                  refine AllReady.cons rfl (fun K hK => ?_) ?_
                  · go_simp
                    refine hK _ _ ?_
                    clear hK K
                    refine wpAny_done (by kernel_rfl) ?_ _
                    (gi_wp2; rw [E6.out]; exact HFin.out)
                  exact AllReady.nil
                exact AllReady.nil
              exact AllReady.nil
            exact AllReady.nil
          refine AllReady.cons rfl (fun K hK => ?_) ?_
          · go_simp
            refine hK _ _ ?_
            clear hK K
            refine wpAny_take (i := 6) rfl (by kernel_rfl) (by kernel_rfl) (by kernel_rfl) (fun _ _ _ h => h) (Or.inl ⟨by rfl, fun w => by go_simp; try rfl⟩) ?_
            refine wpAny_take (i := 7) rfl (by kernel_rfl) (by kernel_rfl) (by kernel_rfl) (fun _ _ _ h => h) (Or.inl ⟨by go_simp, fun w => by go_simp; try rfl⟩) ?_
            refine wpAny_take (i := 8) rfl (by kernel_rfl) (by kernel_rfl) (by kernel_rfl) (fun _ _ _ h => h) (Or.inl ⟨by go_simp, fun w => by go_simp; try rfl⟩) ?_
            refine wpAny_take (i := 9) rfl (by kernel_rfl) (by kernel_rfl) (by kernel_rfl) (fun _ _ _ h => h) (Or.inl ⟨by go_simp, fun w => by go_simp; try rfl⟩) ?_
            refine wpAny_take (i := 10) rfl (by kernel_rfl) (by kernel_rfl) (by kernel_rfl) (fun _ _ _ h => h) (Or.inl ⟨by go_simp, fun w => by go_simp; try rfl⟩) ?_
            refine wpAny_take (i := 11) rfl (by kernel_rfl) (by kernel_rfl) (by kernel_rfl) (fun _ _ _ h => h) (Or.inl ⟨by go_simp, fun w => by go_simp; try rfl⟩) ?_
            refine wpAny_take (i := 13) rfl (by kernel_rfl) (by kernel_rfl) (by kernel_rfl) (fun _ _ _ h => h) (Or.inl ⟨by go_simp, fun w => by go_simp; try rfl⟩) ?_
            refine wpAny_ready (rs := [0, 12]) (by kernel_rfl) (by simp) ?_
            refine AllReady.cons rfl (fun K hK => ?_) ?_
            · go_simp
              refine hK _ _ ?_
              clear hK K
              refine wpAny_ready (rs := [12]) (by kernel_rfl) (by simp) ?_
              refine AllReady.cons rfl (fun K hK => ?_) ?_
              · go_simp
                refine hK _ _ ?_
                clear hK K
                refine wpAny_ready (rs := [14]) (by kernel_rfl) (by simp) ?_
                refine AllReady.cons rfl (fun K hK => ?_) ?_
                · go_simp
                  refine (next_any s vp regs words _ code _ _ Hlen.out Hcd.out).mono ?_
                  rintro e w2 ⟨v9, rfl, hv9, hb9⟩
                  obtain ⟨a9, c9, hv9f⟩ := ints_form hv9
                  rw [Hnl.out] at hv9f; subst hv9f; have hcd2 := HC.out _ hb9
                  obtain ⟨⟨⟨hbq2, hfq2⟩, hcq2⟩, hFin⟩ := hcd2
                  have HFin := Lib.hid hFin
                  clear hFin hv9 hb9
                  refine hK _ _ ?_
                  clear hK K
                  refine wpAny_take (i := 15) rfl (by kernel_rfl) (by kernel_rfl) (by kernel_rfl) (fun _ _ _ h => h) (Or.inl ⟨by go_simp, fun w => by go_simp; try rfl⟩) ?_
                  refine wpAny_take (i := 16) rfl (by kernel_rfl) (by kernel_rfl) (by kernel_rfl) (fun _ _ _ h => h) (Or.inl ⟨by go_simp, fun w => by go_simp; try rfl⟩) ?_
                  refine wpAny_take (i := 17) rfl (by kernel_rfl) (by kernel_rfl) (by kernel_rfl) (fun _ _ _ h => h) (Or.inl ⟨by go_simp, fun w => by go_simp; try rfl⟩) ?_
                  refine wpAny_take (i := 18) rfl (by kernel_rfl) (by kernel_rfl) (by kernel_rfl) (fun _ _ _ h => h) (Or.inl ⟨by rfl, fun w => by go_simp; try rfl⟩) ?_
                  refine wpAny_take (i := 19) rfl (by kernel_rfl) (by kernel_rfl) (by kernel_rfl) (fun _ _ _ h => h) (Or.inl ⟨by rfl, fun w => by go_simp; try rfl⟩) ?_
                  refine wpAny_ready (rs := [20]) (by kernel_rfl) (by simp) ?_
                  refine AllReady.cons rfl (fun K hK => ?_) ?_
                  · go_simp
                    refine hK _ _ ?_
                    clear hK K
                    refine wpAny_done (by kernel_rfl) ?_ _
                    (gi_wp2; rw [E6.out]; exact HFin.out)
                  exact AllReady.nil
                exact AllReady.nil
              exact AllReady.nil
            refine AllReady.cons rfl (fun K hK => ?_) ?_
            · go_simp
              refine hK _ _ ?_
              clear hK K
              refine wpAny_ready (rs := [0, 14]) (by kernel_rfl) (by simp) ?_
              refine AllReady.cons rfl (fun K hK => ?_) ?_
              · go_simp
                refine hK _ _ ?_
                clear hK K
                refine wpAny_ready (rs := [14]) (by kernel_rfl) (by simp) ?_
                refine AllReady.cons rfl (fun K hK => ?_) ?_
                · go_simp
                  refine (next_any s vp regs words _ code _ _ Hlen.out Hcd.out).mono ?_
                  rintro e w2 ⟨v9, rfl, hv9, hb9⟩
                  obtain ⟨a9, c9, hv9f⟩ := ints_form hv9
                  rw [Hnl.out] at hv9f; subst hv9f; have hcd2 := HC.out _ hb9
                  obtain ⟨⟨⟨hbq2, hfq2⟩, hcq2⟩, hFin⟩ := hcd2
                  have HFin := Lib.hid hFin
                  clear hFin hv9 hb9
                  refine hK _ _ ?_
                  clear hK K
                  refine wpAny_take (i := 15) rfl (by kernel_rfl) (by kernel_rfl) (by kernel_rfl) (fun _ _ _ h => h) (Or.inl ⟨by go_simp, fun w => by go_simp; try rfl⟩) ?_
                  refine wpAny_take (i := 16) rfl (by kernel_rfl) (by kernel_rfl) (by kernel_rfl) (fun _ _ _ h => h) (Or.inl ⟨by go_simp, fun w => by go_simp; try rfl⟩) ?_
                  refine wpAny_take (i := 17) rfl (by kernel_rfl) (by kernel_rfl) (by kernel_rfl) (fun _ _ _ h => h) (Or.inl ⟨by go_simp, fun w => by go_simp; try rfl⟩) ?_
                  refine wpAny_take (i := 18) rfl (by kernel_rfl) (by kernel_rfl) (by kernel_rfl) (fun _ _ _ h => h) (Or.inl ⟨by rfl, fun w => by go_simp; try rfl⟩) ?_
                  refine wpAny_take (i := 19) rfl (by kernel_rfl) (by kernel_rfl) (by kernel_rfl) (fun _ _ _ h => h) (Or.inl ⟨by rfl, fun w => by go_simp; try rfl⟩) ?_
                  refine wpAny_ready (rs := [20]) (by kernel_rfl) (by simp) ?_
                  refine AllReady.cons rfl (fun K hK => ?_) ?_
                  · go_simp
                    refine hK _ _ ?_
                    clear hK K
                    refine wpAny_done (by kernel_rfl) ?_ _
                    (gi_wp2; rw [E6.out]; exact HFin.out)
                  exact AllReady.nil
                exact AllReady.nil
              refine AllReady.cons rfl (fun K hK => ?_) ?_
              · go_simp
                refine (next_any s vp regs words _ code _ _ Hlen.out Hcd.out).mono ?_
                rintro e w2 ⟨v9, rfl, hv9, hb9⟩
                obtain ⟨a9, c9, hv9f⟩ := ints_form hv9
                rw [Hnl.out] at hv9f; subst hv9f; have hcd2 := HC.out _ hb9
                obtain ⟨⟨⟨hbq2, hfq2⟩, hcq2⟩, hFin⟩ := hcd2
                have HFin := Lib.hid hFin
                clear hFin hv9 hb9
                refine hK _ _ ?_
                clear hK K
                refine wpAny_take (i := 15) rfl (by kernel_rfl) (by kernel_rfl) (by kernel_rfl) (fun _ _ _ h => h) (Or.inl ⟨by go_simp, fun w => by go_simp; try rfl⟩) ?_
                refine wpAny_take (i := 16) rfl (by kernel_rfl) (by kernel_rfl) (by kernel_rfl) (fun _ _ _ h => h) (Or.inl ⟨by go_simp, fun w => by go_simp; try rfl⟩) ?_
                refine wpAny_take (i := 17) rfl (by kernel_rfl) (by kernel_rfl) (by kernel_rfl) (fun _ _ _ h => h) (Or.inl ⟨by go_simp, fun w => by go_simp; try rfl⟩) ?_
                refine wpAny_take (i := 18) rfl (by kernel_rfl) (by kernel_rfl) (by kernel_rfl) (fun _ _ _ h => h) (Or.inl ⟨by rfl, fun w => by go_simp; try rfl⟩) ?_
                refine wpAny_ready (rs := [0]) (by kernel_rfl) (by simp) ?_
                refine AllReady.cons rfl (fun K hK => ?_) ?_
                · go_simp
                  refine hK _ _ ?_
                  clear hK K
                  refine wpAny_take (i := 19) rfl (by kernel_rfl) (by kernel_rfl) (by kernel_rfl) (fun _ _ _ h => h) (Or.inl ⟨by rfl, fun w => by go_simp; try rfl⟩) ?_
                  refine wpAny_ready (rs := [20]) (by kernel_rfl) (by simp) ?_
                  refine AllReady.cons rfl (fun K hK => ?_) ?_
                  · go_simp
                    refine hK _ _ ?_
                    clear hK K
                    refine wpAny_done (by kernel_rfl) ?_ _
                    (gi_wp2; rw [E6.out]; exact HFin.out)
                  exact AllReady.nil
                exact AllReady.nil
              exact AllReady.nil
            exact AllReady.nil
          exact AllReady.nil
        exact AllReady.nil
    · rw [hq] at hcq
      have Hq := Lib.hid hq
      have Hfin := Lib.hid (HD.out _ (by (try simp only [World.size_alloc]); (try simp only [size_set]); omega) _ (HF.out _ true Hstep1.out.1 Hstep1.out.2.1 Hstep1.out.2.2 (by rw [Hq.out]; rfl)))
      clear hq
      gi_wp2
      refine wpIn_region_as_any (by kernel_rfl) (by kernel_rfl) (by rintro ⟨a, w, h⟩; exact h) ?_
      refine wpAny_take (i := 1) rfl (by kernel_rfl) (by kernel_rfl) (by kernel_rfl) (fun _ _ _ h => h) (Or.inl ⟨by rfl, fun w => by go_simp; try rfl⟩) ?_
      refine wpAny_take (i := 3) rfl (by kernel_rfl) (by kernel_rfl) (by kernel_rfl) (fun _ _ _ h => h) (Or.inl ⟨by rfl, fun w => by go_simp; try rfl⟩) ?_
      refine wpAny_ready (rs := [0, 2]) (by kernel_rfl) (by simp) ?_
      refine AllReady.cons rfl (fun K hK => ?_) ?_
      · go_simp
        refine hK _ _ ?_
        clear hK K
        refine wpAny_ready (rs := [2]) (by kernel_rfl) (by simp) ?_
        refine AllReady.cons rfl (fun K hK => ?_) ?_
        · go_simp
          refine hK _ _ ?_
          clear hK K
          refine wpAny_take (i := 4) rfl (by kernel_rfl) (by kernel_rfl) (by kernel_rfl) (fun _ _ _ h => h) (Or.inl ⟨by rfl, fun w => by go_simp; try rfl⟩) ?_
          refine wpAny_ready (rs := [5]) (by kernel_rfl) (by simp) ?_
          refine AllReady.cons rfl (fun K hK => ?_) ?_
          · go_simp
            refine hK _ _ ?_
            clear hK K
            refine wpAny_take (i := 6) rfl (by kernel_rfl) (by kernel_rfl) (by kernel_rfl) (fun _ _ _ h => h) (Or.inl ⟨by rfl, fun w => by go_simp; try rfl⟩) ?_
            refine wpAny_take (i := 7) rfl (by kernel_rfl) (by kernel_rfl) (by kernel_rfl) (fun _ _ _ h => h) (Or.inr ⟨by go_simp, rfl⟩) ?_
            refine wpAny_take (i := 8) rfl (by kernel_rfl) (by kernel_rfl) (by kernel_rfl) (fun _ _ _ h => h) (Or.inr ⟨by go_simp, rfl⟩) ?_
            refine wpAny_take (i := 9) rfl (by kernel_rfl) (by kernel_rfl) (by kernel_rfl) (fun _ _ _ h => h) (Or.inr ⟨by go_simp, rfl⟩) ?_
            refine wpAny_take (i := 10) rfl (by kernel_rfl) (by kernel_rfl) (by kernel_rfl) (fun _ _ _ h => h) (Or.inr ⟨by go_simp, rfl⟩) ?_
            refine wpAny_take (i := 11) rfl (by kernel_rfl) (by kernel_rfl) (by kernel_rfl) (fun _ _ _ h => h) (Or.inr ⟨by go_simp, rfl⟩) ?_
            refine wpAny_take (i := 12) rfl (by kernel_rfl) (by kernel_rfl) (by kernel_rfl) (fun _ _ _ h => h) (Or.inr ⟨by go_simp, rfl⟩) ?_
            refine wpAny_take (i := 13) rfl (by kernel_rfl) (by kernel_rfl) (by kernel_rfl) (fun _ _ _ h => h) (Or.inr ⟨by go_simp, rfl⟩) ?_
            refine wpAny_take (i := 14) rfl (by kernel_rfl) (by kernel_rfl) (by kernel_rfl) (fun _ _ _ h => h) (Or.inr ⟨by go_simp, rfl⟩) ?_
            refine wpAny_take (i := 15) rfl (by kernel_rfl) (by kernel_rfl) (by kernel_rfl) (fun _ _ _ h => h) (Or.inr ⟨by go_simp, rfl⟩) ?_
            refine wpAny_take (i := 16) rfl (by kernel_rfl) (by kernel_rfl) (by kernel_rfl) (fun _ _ _ h => h) (Or.inr ⟨by go_simp, rfl⟩) ?_
            refine wpAny_take (i := 17) rfl (by kernel_rfl) (by kernel_rfl) (by kernel_rfl) (fun _ _ _ h => h) (Or.inr ⟨by go_simp, rfl⟩) ?_
            refine wpAny_take (i := 18) rfl (by kernel_rfl) (by kernel_rfl) (by kernel_rfl) (fun _ _ _ h => h) (Or.inl ⟨by rfl, fun w => by go_simp; try rfl⟩) ?_
            refine wpAny_take (i := 19) rfl (by kernel_rfl) (by kernel_rfl) (by kernel_rfl) (fun _ _ _ h => h) (Or.inl ⟨by rfl, fun w => by go_simp; try rfl⟩) ?_
            refine wpAny_ready (rs := [20]) (by kernel_rfl) (by simp) ?_
            refine AllReady.cons rfl (fun K hK => ?_) ?_
            · go_simp
              refine hK _ _ ?_
              clear hK K
              refine wpAny_done (by kernel_rfl) ?_ _
              (gi_wp2; rw [E6.out]; exact Hfin.out)
            exact AllReady.nil
          exact AllReady.nil
        exact AllReady.nil
      refine AllReady.cons rfl (fun K hK => ?_) ?_
      · go_simp
        refine hK _ _ ?_
        clear hK K
        refine wpAny_take (i := 4) rfl (by kernel_rfl) (by kernel_rfl) (by kernel_rfl) (fun _ _ _ h => h) (Or.inl ⟨by rfl, fun w => by go_simp; try rfl⟩) ?_
        refine wpAny_ready (rs := [0, 5]) (by kernel_rfl) (by simp) ?_
        refine AllReady.cons rfl (fun K hK => ?_) ?_
        · go_simp
          refine hK _ _ ?_
          clear hK K
          refine wpAny_ready (rs := [5]) (by kernel_rfl) (by simp) ?_
          refine AllReady.cons rfl (fun K hK => ?_) ?_
          · go_simp
            refine hK _ _ ?_
            clear hK K
            refine wpAny_take (i := 6) rfl (by kernel_rfl) (by kernel_rfl) (by kernel_rfl) (fun _ _ _ h => h) (Or.inl ⟨by rfl, fun w => by go_simp; try rfl⟩) ?_
            refine wpAny_take (i := 7) rfl (by kernel_rfl) (by kernel_rfl) (by kernel_rfl) (fun _ _ _ h => h) (Or.inr ⟨by go_simp, rfl⟩) ?_
            refine wpAny_take (i := 8) rfl (by kernel_rfl) (by kernel_rfl) (by kernel_rfl) (fun _ _ _ h => h) (Or.inr ⟨by go_simp, rfl⟩) ?_
            refine wpAny_take (i := 9) rfl (by kernel_rfl) (by kernel_rfl) (by kernel_rfl) (fun _ _ _ h => h) (Or.inr ⟨by go_simp, rfl⟩) ?_
            refine wpAny_take (i := 10) rfl (by kernel_rfl) (by kernel_rfl) (by kernel_rfl) (fun _ _ _ h => h) (Or.inr ⟨by go_simp, rfl⟩) ?_
            refine wpAny_take (i := 11) rfl (by kernel_rfl) (by kernel_rfl) (by kernel_rfl) (fun _ _ _ h => h) (Or.inr ⟨by go_simp, rfl⟩) ?_
            refine wpAny_take (i := 12) rfl (by kernel_rfl) (by kernel_rfl) (by kernel_rfl) (fun _ _ _ h => h) (Or.inr ⟨by go_simp, rfl⟩) ?_
            refine wpAny_take (i := 13) rfl (by kernel_rfl) (by kernel_rfl) (by kernel_rfl) (fun _ _ _ h => h) (Or.inr ⟨by go_simp, rfl⟩) ?_
            refine wpAny_take (i := 14) rfl (by kernel_rfl) (by kernel_rfl) (by kernel_rfl) (fun _ _ _ h => h) (Or.inr ⟨by go_simp, rfl⟩) ?_
            refine wpAny_take (i := 15) rfl (by kernel_rfl) (by kernel_rfl) (by kernel_rfl) (fun _ _ _ h => h) (Or.inr ⟨by go_simp, rfl⟩) ?_
            refine wpAny_take (i := 16) rfl (by kernel_rfl) (by kernel_rfl) (by kernel_rfl) (fun _ _ _ h => h) (Or.inr ⟨by go_simp, rfl⟩) ?_
            refine wpAny_take (i := 17) rfl (by kernel_rfl) (by kernel_rfl) (by kernel_rfl) (fun _ _ _ h => h) (Or.inr ⟨by go_simp, rfl⟩) ?_
            refine wpAny_take (i := 18) rfl (by kernel_rfl) (by kernel_rfl) (by kernel_rfl) (fun _ _ _ h => h) (Or.inl ⟨by rfl, fun w => by go_simp; try rfl⟩) ?_
            refine wpAny_take (i := 19) rfl (by kernel_rfl) (by kernel_rfl) (by kernel_rfl) (fun _ _ _ h => h) (Or.inl ⟨by rfl, fun w => by go_simp; try rfl⟩) ?_
            refine wpAny_ready (rs := [20]) (by kernel_rfl) (by simp) ?_
            refine AllReady.cons rfl (fun K hK => ?_) ?_
            · go_simp
              refine hK _ _ ?_
              clear hK K
              refine wpAny_done (by kernel_rfl) ?_ _
              (gi_wp2; rw [E6.out]; exact Hfin.out)
            exact AllReady.nil
          exact AllReady.nil
        refine AllReady.cons rfl (fun K hK => ?_) ?_
        · go_simp
          refine hK _ _ ?_
          clear hK K
          refine wpAny_take (i := 6) rfl (by kernel_rfl) (by kernel_rfl) (by kernel_rfl) (fun _ _ _ h => h) (Or.inl ⟨by rfl, fun w => by go_simp; try rfl⟩) ?_
          refine wpAny_take (i := 7) rfl (by kernel_rfl) (by kernel_rfl) (by kernel_rfl) (fun _ _ _ h => h) (Or.inr ⟨by go_simp, rfl⟩) ?_
          refine wpAny_take (i := 8) rfl (by kernel_rfl) (by kernel_rfl) (by kernel_rfl) (fun _ _ _ h => h) (Or.inr ⟨by go_simp, rfl⟩) ?_
          refine wpAny_take (i := 9) rfl (by kernel_rfl) (by kernel_rfl) (by kernel_rfl) (fun _ _ _ h => h) (Or.inr ⟨by go_simp, rfl⟩) ?_
          refine wpAny_take (i := 10) rfl (by kernel_rfl) (by kernel_rfl) (by kernel_rfl) (fun _ _ _ h => h) (Or.inr ⟨by go_simp, rfl⟩) ?_
          refine wpAny_take (i := 11) rfl (by kernel_rfl) (by kernel_rfl) (by kernel_rfl) (fun _ _ _ h => h) (Or.inr ⟨by go_simp, rfl⟩) ?_
          refine wpAny_take (i := 12) rfl (by kernel_rfl) (by kernel_rfl) (by kernel_rfl) (fun _ _ _ h => h) (Or.inr ⟨by go_simp, rfl⟩) ?_
          refine wpAny_take (i := 13) rfl (by kernel_rfl) (by kernel_rfl) (by kernel_rfl) (fun _ _ _ h => h) (Or.inr ⟨by go_simp, rfl⟩) ?_
          refine wpAny_take (i := 14) rfl (by kernel_rfl) (by kernel_rfl) (by kernel_rfl) (fun _ _ _ h => h) (Or.inr ⟨by go_simp, rfl⟩) ?_
          refine wpAny_take (i := 15) rfl (by kernel_rfl) (by kernel_rfl) (by kernel_rfl) (fun _ _ _ h => h) (Or.inr ⟨by go_simp, rfl⟩) ?_
          refine wpAny_take (i := 16) rfl (by kernel_rfl) (by kernel_rfl) (by kernel_rfl) (fun _ _ _ h => h) (Or.inr ⟨by go_simp, rfl⟩) ?_
          refine wpAny_take (i := 17) rfl (by kernel_rfl) (by kernel_rfl) (by kernel_rfl) (fun _ _ _ h => h) (Or.inr ⟨by go_simp, rfl⟩) ?_
          refine wpAny_take (i := 18) rfl (by kernel_rfl) (by kernel_rfl) (by kernel_rfl) (fun _ _ _ h => h) (Or.inl ⟨by rfl, fun w => by go_simp; try rfl⟩) ?_
          refine wpAny_ready (rs := [0]) (by kernel_rfl) (by simp) ?_
          refine AllReady.cons rfl (fun K hK => ?_) ?_
          · go_simp
            refine hK _ _ ?_
            clear hK K
            refine wpAny_take (i := 19) rfl (by kernel_rfl) (by kernel_rfl) (by kernel_rfl) (fun _ _ _ h => h) (Or.inl ⟨by rfl, fun w => by go_simp; try rfl⟩) ?_
            refine wpAny_ready (rs := [20]) (by kernel_rfl) (by simp) ?_
            refine AllReady.cons rfl (fun K hK => ?_) ?_
            · go_simp
              refine hK _ _ ?_
              clear hK K
              refine wpAny_done (by kernel_rfl) ?_ _
              (gi_wp2; rw [E6.out]; exact Hfin.out)
            exact AllReady.nil
          exact AllReady.nil
        exact AllReady.nil
      exact AllReady.nil
  case hstop =>
    rintro D c pre W _ _ h _
    exact h.elim
  case hdone =>
    rintro D xs W hD hxs hB hK
    rw [hxs] at hB
    obtain ⟨into, hinto⟩ : ∃ into, into = intoAt (List.replicate len 0) (edgesL code) := ⟨_, rfl⟩
    obtain ⟨quiet, hquiet⟩ : ∃ quiet, quiet = quietAt code (List.replicate len false) (edgesL code) := ⟨_, rfl⟩
    rw [← hinto, ← hquiet] at hB
    simp only [World.size_alloc] at hD
    have hcode : CodeIn W (.slice ca len cap) code := by rw [Hl.out]; exact SliceIn.later Hc.out hB.below
    obtain ⟨f0, f1, f2, f3, f4⟩ := hB.fn
    have Hcode := Lib.hid hcode
    have HB := Lib.hid hB
    have HK := Lib.hid hK
    clear hxs hB hK hcode hstops hEA hBI hmi hmb
    gi_wp2_with fail
    refine (callsIn_wide.2 (reach_any s vp regs words _ code _ Hlen.out Hcode.out)).mono ?_
    rintro e W1 ⟨v8, rfl, hv8, hb1⟩
    obtain ⟨can, hcan⟩ : ∃ can, can = reachL code (-1) := ⟨_, rfl⟩
    rw [← hcan] at hv8
    have hDW : D < W.heap.size := (Array.getElem?_eq_some_iff.1 HK.out).1
    have hK1 : W1.heap[D]? = some (.deferred (some [])) := (hb1.block D hDW).trans HK.out
    have hB1 := HB.out.later hb1
    have hsz1 : W.heap.size ≤ W1.heap.size := hb1.size
    obtain ⟨a8, c8, rfl, hc8⟩ : ∃ a8 c8, v8 = .slice a8 can.length c8 ∧ (0 < can.length → ∃ g, a8 = some ⟨g, 0, none⟩) := by
      rcases hv8.form with ⟨h, h2⟩ | ⟨g, c, h, _⟩
      · exact ⟨none, 0, by rw [h, h2]; rfl, by rw [h2]; simp⟩
      · exact ⟨_, _, h, fun _ => ⟨g, rfl⟩⟩
    obtain ⟨nR, hnR⟩ : ∃ nR, nR = can.length := ⟨_, rfl⟩
    rw [← hnR] at hc8 hv8 ⊢
    have hnb : nR ≤ 1024 ∧ nR ≤ len := by
      rw [hnR, hcan, reachL_length, Hl.out]; split
      · rename_i h; simp [hasB] at h; exact ⟨h.2, Nat.le_refl _⟩
      · exact ⟨by omega, by omega⟩
    obtain ⟨hnb1, hnb2⟩ := hnb
    have HnR := Lib.hid hnR
    have Hcan := Lib.hid hcan
    have Hinto := Lib.hid hinto
    have Hquiet := Lib.hid hquiet
    have Hv8 := Lib.hid hv8
    have HB1 := Lib.hid hB1
    have HK1 := Lib.hid hK1
    have Hb1 := Lib.hid hb1
    clear hnR hcan hinto hquiet hv8 hB1 hK1 hb1 f0 f1 f2 f3 f4 Hcode HB HK
    gi_wp2_with fail
    refine wpIn_wide.2 ?_
    go_loopg [7, 51] nR (fun g out i wr => ∃ k : Nat, k ≤ nR ∧ g = nR - k ∧ i = .int .i64 k ∧ OwnInts wr W1.heap.size out (blocksTo into quiet can k) ∧ Below W1.heap.size W1 wr)
    case atStart => exact ⟨0, Nat.zero_le _, rfl, rfl, World.ownsRow_nil _ _ _ _, Below.refl _ _⟩
    case round =>
      obtain ⟨k, hk, hg, rfl, hown, hbr⟩ := hrel
      have Hg := Lib.hid hg
      have Hown := Lib.hid hown
      have Hbr := Lib.hid hbr
      clear hg hown hbr
      by_cases hkn : k < nR
      · obtain ⟨g8, rfl⟩ := hc8 (by omega)
        have hL : BI w wr len s vp regs words (.slice ca len cap) into quiet := HB1.out.later Hbr.out
        have hck : wr.cell? ⟨g8, k, none⟩ = some (.bool (can.getD k false)) := OwnBools.cell (ownsRow_below Hv8.out Hbr.out (Nat.le_refl _)) (by rw [← HnR.out]; exact hkn)
        have hbi := hL.bi
        have hbq := hL.bq
        have hci : wr.cell? ⟨w.heap.size + 1, k, none⟩ = some (.int .i64 (into.getD k 0)) := OwnInts.cell hL.into (by rw [Hinto.out, intoAt_length]; simp; omega)
        have hcq : wr.cell? ⟨w.heap.size + 1 + 1 + 1, k, none⟩ = some (.bool (quiet.getD k false)) := OwnBools.cell hL.quiet (by rw [Hquiet.out, quietAt_length]; simp; omega)
        have hkl : k < len := by omega
        have hlo : (blocksTo into quiet can k).length ≤ 1000000000000 := Nat.le_trans (blocksTo_le into quiet can k) (by omega)
        have hst : blocksTo into quiet can (k + 1) = blocksTo into quiet can k ++ if blockAt into quiet can k = true then [(k : Int)] else [] := rfl
        have hba : blockAt into quiet can k = (can.getD k false && (((k : Int) == 0) || (into.getD k 0 != 1 || !quiet.getD k false))) := rfl
        have Hst := Lib.hid hst
        have Hlo := Lib.hid hlo
        clear hst hlo hL
        generalize into.getD k 0 = z1 at *
        generalize quiet.getD k false = q1 at *
        generalize can.getD k false = c1 at *
        cases hbb : blockAt into quiet can k
        · have Hbb := Lib.hid hbb
          rw [hbb] at hba
          have hcase : c1 = false ∨ (c1 = true ∧ ((k : Int) == 0) = false ∧ (z1 != 1) = false ∧ q1 = true) := by
            cases c1
            · exact Or.inl rfl
            · right
              simp only [Bool.true_and] at hba
              have := hba.symm
              simp only [Bool.or_eq_false_iff, Bool.not_eq_false'] at this
              exact ⟨rfl, this.1, this.2.1, this.2.2⟩
          clear hba hbb
          rcases hcase with rfl | ⟨rfl, h2, h3, rfl⟩
          all_goals
            go_wp2_with fail
            go_roundg (nR - (k + 1))
            case measure => have := Hg.out; omega
            case rel => exact ⟨k + 1, hkn, rfl, by go_num, by rw [Hst.out, if_neg (by rw [Hbb.out]; decide), List.append_nil]; exact Hown.out, Hbr.out⟩
        · have Hbb := Lib.hid hbb
          rw [hbb] at hba
          have hcase : c1 = true ∧ (((k : Int) == 0) = true ∨ (((k : Int) == 0) = false ∧ (z1 != 1) = true) ∨ (((k : Int) == 0) = false ∧ (z1 != 1) = false ∧ q1 = false)) := by
            have := hba.symm
            simp only [Bool.and_eq_true] at this
            refine ⟨this.1, ?_⟩
            cases h1 : ((k : Int) == 0)
            · cases h2 : (z1 != 1)
              · have h3 := this.2; rw [h1, h2] at h3; simp at h3; exact Or.inr (Or.inr ⟨rfl, rfl, h3⟩)
              · exact Or.inr (Or.inl ⟨rfl, rfl⟩)
            · exact Or.inl rfl
          clear hba hbb
          obtain ⟨rfl, hcase⟩ := hcase
          rcases hcase with h2 | ⟨h2, h3⟩ | ⟨h2, h3, rfl⟩
          all_goals
            go_wp2_with (at_builtin; refine append_int rfl _ _ rfl W1.heap.size _ _ rfl Hown.out _ rfl Hlo.out Hbr.out.size ?_)
            intro v' w' ho' hgr hfr hbb2
            have hbr' := hbb2 _ _ Hbr.out (Nat.le_refl _)
            have HH := Lib.hid ho'
            have HB' := Lib.hid hbr'
            clear ho' hgr hfr hbb2 hbr'
            go_wp2_with fail
            go_roundg (nR - (k + 1))
            case measure => have := Hg.out; omega
            case rel => exact ⟨k + 1, hkn, rfl, by go_num, by rw [Hst.out, if_pos Hbb.out]; exact HH.out, HB'.out⟩
      · obtain rfl : k = nR := by omega
        have hKr : wr.heap[D]? = some (.deferred (some [])) := (Hbr.out.block D (Nat.lt_of_lt_of_le hDW hsz1)).trans HK1.out
        have HKr := Lib.hid hKr
        have HBw : Hid (Below w.heap.size w wr) := (HB1.out.later Hbr.out).below
        clear hKr
        go_wp2_with fail
        gi_wp2_with fail
        refine ⟨by simp, .inl ⟨_, _, rfl, run_takeDeferred HKr.out, ?_⟩⟩
        refine ⟨_, results_tmp rfl _ _ _, _, rfl, ?_, HBw.out.trans (belowK_b (w := w) (Nat.le_refl _) wr D _ _ (by omega) HKr.out rfl rfl)⟩
        have e : blocksL code = blocksTo into quiet can k := by rw [Hinto.out, Hquiet.out, HnR.out, Hcan.out, Hl.out]; rfl
        rw [e]
        exact ownsRow_putObj (ownsRow_mono Hown.out (by omega)) _ HKr.out rfl
end Go.Proofs.Ytggkeodoenhmoaa
