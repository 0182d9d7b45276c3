/- The statement FlowCloses' walk: of every function it answers true and leaves what was there. -/
import Derived.Test.YtggkeodoenhmoaaClPlain
import Derived.Test.YtggkeodoenhmoaaTold
import Derived.Test.YtggkeodoenhmoaaLawBlocks
namespace Go.Proofs.Ytggkeodoenhmoaa
open Go.RowKit Go.Shelf
attribute [local go_sem] Oper.semAt_some wide_fn

def ledM (C : Nat) (W : World) (k : Nat) : Prop := k < W.heap.size ∧ k = C + 1
theorem ledM_fit (C Bf B : Nat) (h1 : Bf = C + 3) (h2 : C + 4 ≤ B) : MFit (ledM C) C Bf B := by
  refine ⟨fun W k h => ⟨by rcases h with ⟨_, h⟩; omega, by rcases h with ⟨_, h⟩; omega⟩, fun W W' hB _ k h => ⟨by rcases h with ⟨_, h⟩; omega, h.2⟩, fun W l o o' _ h ho k hk => ⟨by have := hk.1; simpa [World.putObj] using this, hk.2⟩⟩

/-- Within the loop over the edges: behind the world wB the list of what is led to, its box, the box of what can be reached. -/
structure CI (wB W : World) (n : Nat) (va : Value) (l : List Bool) : Prop where
  led : OwnBools W (wB.heap.size + 1) (.slice (some ⟨wB.heap.size + 1, 0, none⟩) n n) l
  cbox : W.cell? ⟨wB.heap.size, 0, none⟩ = some va
  lbox : W.cell? ⟨wB.heap.size + 2, 0, none⟩ = some (.slice (some ⟨wB.heap.size + 1, 0, none⟩) n n)
  below : Below wB.heap.size wB W
  size : wB.heap.size + 4 ≤ W.heap.size

theorem CI.turn {wB W W' : World} {row : Option Nat} {n : Nat} {va : Value} {l : List Bool} (h : CI wB W n va l) (hg : W.grownBy W' row) (hr : ∀ r, row = some r → wB.heap.size + 4 ≤ r ∧ ∃ o : Obj, W.heap[r]? = some o ∧ o.isCells = false) : CI wB W' n va l :=
  have hr' : ∀ r, row = some r → ∃ o : Obj, W.heap[r]? = some o ∧ o.isCells = false := fun r e => (hr r e).2
  ⟨ownsRow_turn h.led hg hr', cell_kept h.cbox hg hr', cell_kept h.lbox hg hr', h.below.grown hg (by have := h.size; omega) (fun k e => by have := (hr k e).1; omega), Nat.le_trans h.size hg.size⟩
theorem CI.set {wB W : World} {n : Nat} {va : Value} {l : List Bool} (h : CI wB W n va l) (v : Nat) (z : Bool) : CI wB (W.setCell ⟨wB.heap.size + 1, v, none⟩ (.bool z)) n va (l.set v z) :=
  ⟨OwnBools.store h.led v z, (World.cell?_setCell_other _ _ _ _ (by simp)).trans h.cbox, (World.cell?_setCell_other _ _ _ _ (by simp)).trans h.lbox, h.below.setCell (by show _ ≤ wB.heap.size + 1; omega) _, by rw [size_set]; exact h.size⟩
theorem CI.later {wB W W' : World} {n : Nat} {va : Value} {l : List Bool} (h : CI wB W n va l) (hb : Below W.heap.size W W') : CI wB W' n va l :=
  have hs := h.size
  ⟨ownsRow_below h.led hb (Nat.le_refl _), (hb.cell (by show wB.heap.size < _; omega)).trans h.cbox, (hb.cell (by show wB.heap.size + 2 < _; omega)).trans h.lbox, h.below.trans (hb.mono (by omega)), Nat.le_trans h.size hb.size⟩

/-- Behind the loop over the edges: all that is read later. -/
structure CF (w wB W : World) (s : ByteArray) (vp : Value) (regs words : Int) (vc : Value) (code : List Ins) (g n ca D : Nat) (can led : List Bool) : Prop where
  fn : FnAt W w.heap.size s vp regs words vc
  code : CodeIn W vc code
  cbox : W.cell? ⟨wB.heap.size, 0, none⟩ = some (.slice (some ⟨g, 0, none⟩) n ca)
  can : OwnBools W 0 (.slice (some ⟨g, 0, none⟩) n ca) can
  lbox : W.cell? ⟨wB.heap.size + 2, 0, none⟩ = some (.slice (some ⟨wB.heap.size + 1, 0, none⟩) n n)
  led : OwnBools W 0 (.slice (some ⟨wB.heap.size + 1, 0, none⟩) n n) led
  res : W.cell? ⟨w.heap.size + 1, 0, none⟩ = some (.bool false)
  fres : W.frozen? ⟨w.heap.size + 1, 0, none⟩ = false
  d : W.heap[D]? = some (.deferred (some []))
  below : Below w.heap.size w W
  size : w.heap.size + 2 ≤ wB.heap.size ∧ wB.heap.size + 4 ≤ W.heap.size ∧ wB.heap.size + 4 ≤ D

theorem CF.later {w wB W W' : World} {s : ByteArray} {vp : Value} {regs words : Int} {vc : Value} {code : List Ins} {g n ca D : Nat} {can led : List Bool} (h : CF w wB W s vp regs words vc code g n ca D can led) (hb : Below W.heap.size W W') : CF w wB W' s vp regs words vc code g n ca D can led :=
  have hs := h.size
  ⟨h.fn.later hb (by omega), SliceIn.later h.code hb, (hb.cell (by show wB.heap.size < _; omega)).trans h.cbox, ownsRow_below h.can hb (Nat.le_refl _), (hb.cell (by show wB.heap.size + 2 < _; omega)).trans h.lbox, ownsRow_below h.led hb (Nat.le_refl _),
    (hb.cell (by show w.heap.size + 1 < _; omega)).trans h.res, (hb.frozen (by show w.heap.size + 1 < _; omega)).trans h.fres, (hb.block D (Array.getElem?_eq_some_iff.1 h.d).1).trans h.d, h.below.trans (hb.mono (by omega)), ⟨hs.1, Nat.le_trans hs.2.1 hb.size, hs.2.2⟩⟩

set_option maxRecDepth 100000 in
set_option maxHeartbeats 4000000 in
theorem closes_some (s : ByteArray) (vp : Value) (regs words : Int) (vc : Value) (code : List Ins) (w : World) (hh : hasB code = true) (hc : CodeIn w vc code) :
    Calls Try.prog 7 #[fnV s vp regs words vc] w (Gives (.bool true) w) := by
  have hpos : 0 < code.length ∧ code.length ≤ 1024 := by simpa [hasB] using hh
  obtain ⟨hp0, hp1⟩ := hpos
  have hcv := hc
  obtain ⟨-, ac, cc, rfl, -⟩ := hcv
  have Hc := Lib.hid hc
  have Hh := Lib.hid hh
  have Hlen : Hid (code.length * 40 ≤ 140737488351232) := by show _ ≤ _; omega
  obtain ⟨n, hn⟩ : ∃ n, n = code.length := ⟨_, rfl⟩
  rw [← hn] at hp0 hp1 ⊢
  have Hn := Lib.hid hn
  rw [← hn] at Hc
  clear hc hh hn
  refine (callsIn_wide (n := 20)).1 ?_
  refine callsIn_of_wp_marks Try.func7 rfl trivial ?_ rfl
  simp only [Try.ntmps7, List.size_toArray, List.length_cons, List.length_nil, Nat.reduceAdd, Nat.reduceSub, Array.replicate_succ, Array.replicate_zero, List.push_toArray, List.append_toArray, List.nil_append, List.cons_append]
  gi_wp2_with fail
  obtain ⟨w0, hw0⟩ : ∃ w0 : World, w0 = (w.alloc (.cells #[.string s, vp, .int .i64 regs, .int .i64 words, .slice ac n cc] 25)).alloc (.cells #[.bool false] 4) := ⟨_, rfl⟩
  have hb0 : Below w.heap.size w w0 := by rw [hw0]; exact ((Below.refl _ _).alloc (Nat.le_refl _) _).alloc (by (try simp only [World.size_alloc]); (try simp only [size_set]); omega) _
  have hf0 : FnAt w0 w.heap.size s vp regs words (.slice ac n cc) := by rw [hw0]; exact (FnAt.box w s vp regs words _ _).later ((Below.refl (w.heap.size + 1) _).alloc (by (try simp only [World.size_alloc]); (try simp only [size_set]); omega) _) (Nat.lt_succ_self _)
  have hr0 : w0.cell? ⟨w.heap.size + 1, 0, none⟩ = some (.bool false) ∧ w0.frozen? ⟨w.heap.size + 1, 0, none⟩ = false := by
    rw [hw0]
    exact ⟨by rw [World.cell?_alloc_at _ _ _ _ (by simp)]; rfl, by rw [World.frozen?_alloc_at _ _ _ _ (by simp)]⟩
  have hs0 : w.heap.size + 2 ≤ w0.heap.size := by rw [hw0]; simp
  rw [← hw0]
  refine (callsIn_wide.2 (fixed_any _)).mono ?_
  rintro e wA ⟨rfl, hbA⟩
  have hfA := hf0.later hbA (by omega)
  obtain ⟨f0, f1, f2, f3, f4⟩ := hfA
  have hbwA : Below w.heap.size w wA := hb0.trans (hbA.mono (by omega))
  have hrA : wA.cell? ⟨w.heap.size + 1, 0, none⟩ = some (.bool false) ∧ wA.frozen? ⟨w.heap.size + 1, 0, none⟩ = false := ⟨(hbA.cell (by show w.heap.size + 1 < _; omega)).trans hr0.1, (hbA.frozen (by show w.heap.size + 1 < _; omega)).trans hr0.2⟩
  have hsA : w.heap.size + 2 ≤ wA.heap.size := Nat.le_trans hs0 hbA.size
  have HbwA := Lib.hid hbwA
  have HrA := Lib.hid hrA
  have HfA : Hid (FnAt wA w.heap.size s vp regs words (.slice ac n cc)) := ⟨f0, f1, f2, f3, f4⟩
  clear hw0 hb0 hf0 hr0 hs0 hbA hbwA hrA
  gi_wp2_with fail
  have hcA : CodeIn wA (.slice ac n cc) code := by exact SliceIn.later Hc.out HbwA.out
  refine (callsIn_wide.2 (reach_any s vp regs words (.slice ac n cc) code _ Hlen.out hcA)).mono ?_
  rintro e wB ⟨va, rfl, hva, hbB⟩
  obtain ⟨can, hcan⟩ : ∃ can, can = reachL code (-1) := ⟨_, rfl⟩
  rw [← hcan] at hva
  have hcl : can.length = n := by rw [hcan, reachL_length, if_pos Hh.out, Hn.out]
  obtain ⟨g, ca, rfl, hg1, hg2⟩ : ∃ g ca, va = .slice (some ⟨g, 0, none⟩) n ca ∧ wA.heap.size ≤ g ∧ g < wB.heap.size := by
    rcases hva.form with ⟨_, h⟩ | ⟨g, c, h, h2, h3, _⟩
    · rw [h] at hcl; simp at hcl; omega
    · exact ⟨g, c, by rw [h, hcl], h2, h3⟩
  have hvaB := hva
  have hc0 : can.getD 0 false = true := by rw [hcan]; exact (reachL_get Hh.out (by rw [← Hn.out]; exact hp0)).2 (Rch.start (by decide))
  have hB : FnAt wB w.heap.size s vp regs words (.slice ac n cc) ∧ Below w.heap.size w wB ∧ (wB.cell? ⟨w.heap.size + 1, 0, none⟩ = some (.bool false) ∧ wB.frozen? ⟨w.heap.size + 1, 0, none⟩ = false) ∧ OwnBools wB wA.heap.size (.slice (some ⟨g, 0, none⟩) n ca) can :=
    ⟨HfA.out.later hbB (by omega), HbwA.out.trans (hbB.mono (by omega)), ⟨(hbB.cell (by show w.heap.size + 1 < _; omega)).trans HrA.out.1, (hbB.frozen (by show w.heap.size + 1 < _; omega)).trans HrA.out.2⟩, hvaB⟩
  have hsB : w.heap.size + 2 ≤ wB.heap.size := Nat.le_trans hsA hbB.size
  have hq0 : wB.cell? ⟨g, 0, none⟩ = some (.bool true) := by have := OwnBools.cell hvaB (k := 0) (by omega); rw [hc0] at this; exact this
  have hzn : ((n : Int) == 0) = false := beq_eq_false_iff_ne.2 (by omega)
  obtain ⟨g0, g1', g2', g3, g4⟩ := hB.1
  have HB := Lib.hid hB
  have Hcan := Lib.hid hcan
  have Hcl := Lib.hid hcl
  clear hbB hcA hva hvaB hc0 hB HfA HbwA HrA f0 f1 f2 f3 f4 hcan hcl
  have hmk := make_bools_run n (by omega)
  have hz1 : w.heap.size < wB.heap.size := by omega
  have hz2 : w.heap.size + 1 < wB.heap.size := by omega
  have hz3 : w.heap.size ≤ wB.heap.size := by omega
  have hz4 : w.heap.size ≤ wB.heap.size + 1 := by omega
  have hz5 : w.heap.size < wB.heap.size + 1 := by omega
  have hz6 : w.heap.size < wB.heap.size + 1 + 1 := by omega
  gi_wp2_with fail
  refine (callsIn_wide.2 (edges_any _ _ _ _ _ _)).mono ?_
  rintro e w2 ⟨rfl, rfl⟩
  gi_wp2_with fail
  obtain ⟨W0, hW0⟩ : ∃ W0 : World, W0 = (((wB.alloc (.cells #[.slice (some ⟨g, 0, none⟩) n ca] 37)).alloc (.cells (zeroBools n) 4)).alloc (.cells #[.slice (some ⟨wB.heap.size + 1, 0, none⟩) n n] 37)).alloc (.cells #[.string s, vp, .int .i64 regs, .int .i64 words, .slice ac n cc] 25) := ⟨_, rfl⟩
  rw [← hW0]
  have hs0 : W0.heap.size = wB.heap.size + 4 := by rw [hW0]; simp
  have hbel : Below wB.heap.size wB W0 := by
    rw [hW0]; exact ((Below.refl _ _).alloc (Nat.le_refl _) _).alloc (by (try simp only [World.size_alloc]); (try simp only [size_set]); omega) _ |>.alloc (by (try simp only [World.size_alloc]); (try simp only [size_set]); omega) _ |>.alloc (by (try simp only [World.size_alloc]); (try simp only [size_set]); omega) _
  have hI0 : CI wB W0 n (.slice (some ⟨g, 0, none⟩) n ca) (List.replicate n false) := by
    refine ⟨?_, ?_, ?_, hbel, by omega⟩
    · have := owns_zeroBools (wB.alloc (.cells #[.slice (some ⟨g, 0, none⟩) n ca] 37)) (B := wB.heap.size + 1) n (by simp) (by omega)
      rw [World.size_alloc] at this
      rw [hW0]
      exact World.ownsRow.alloc (World.ownsRow.alloc this _) _
    · rw [hW0, World.cell?_alloc_past _ _ _ (by (try simp only [World.size_alloc]); (try simp only [size_set]); omega), World.cell?_alloc_past _ _ _ (by (try simp only [World.size_alloc]); (try simp only [size_set]); omega), World.cell?_alloc_past _ _ _ (by (try simp only [World.size_alloc]); (try simp only [size_set]); omega), World.cell?_alloc_at _ _ _ _ rfl]; rfl
    · rw [hW0, World.cell?_alloc_past _ _ _ (by (try simp only [World.size_alloc]); (try simp only [size_set]); omega), World.cell?_alloc_at _ _ _ _ (by simp)]; rfl
  have hE0 : EAt wB W0 (wB.heap.size + 1 + 1 + 1) s vp regs words (.slice ac n cc) := by
    refine ⟨?_, hbel.size, fun p u hp hc => (hbel.cell hp).trans hc, by omega⟩
    have := FnAt.box (((wB.alloc (.cells #[.slice (some ⟨g, 0, none⟩) n ca] 37)).alloc (.cells (zeroBools n) 4)).alloc (.cells #[.slice (some ⟨wB.heap.size + 1, 0, none⟩) n n] 37)) s vp regs words (.slice ac n cc) 25
    rw [hW0]
    simpa using this
  have hfit : MFit (ledM wB.heap.size) wB.heap.size (wB.heap.size + 1 + 1 + 1) W0.heap.size := ledM_fit _ _ _ rfl (by omega)
  have hstops := edges_stops 19 (wB.heap.size + 1 + 1 + 1) (by omega) wB s vp regs words (.slice ac n cc) code Hlen.out (SliceIn.later Hc.out HB.out.2.1) (ledM wB.heap.size) W0 hfit hE0 (fun k hk => hk.1)
  have Hs0 := Lib.hid hs0
  clear hW0 hs0
  apply wpIn_rangeFunc_ownG (F := Fence.wide) (n := 20) rfl (by omega) (gf := 38) (lb := #[.pointer (some ⟨wB.heap.size + 1 + 1 + 1, 0, none⟩)]) rfl trivial (enters_of Try.func38 (by kernel_rfl) rfl) hstops
    (fun h k => h.trans k) (fun W l o o' hl h ho _ => KM.put hfit W l o o' hl h ho) (Below.refl _ _) (fun _ => rfl)
    (fun pre W => CI wB W n (.slice (some ⟨g, 0, none⟩) n ca) (ledAt (List.replicate n false) (pre.map (·.1))))
    (fun _ _ _ => False)
  case hI => exact fun q A B row h hg hr => h.turn hg (fun r e => by have := hr r e; rw [Hs0.out] at this; exact ⟨by omega, this.2⟩)
  case hIx => exact fun _ _ _ _ _ hs _ _ => hs
  case h0 => exact hI0
  case hassign =>
    intro l x W K hK
    gi_wp2
    exact hK
  case hstop =>
    rintro D c pre W _ _ h _
    exact h.elim
  case hbody =>
    rintro l pre ⟨⟨u, v⟩, hx⟩ W hB hlt
    clear hstops hE0 hI0
    obtain ⟨m1, m2, m3, m4, m5, _, m7, m8⟩ := edgesL_mem hx
    simp only at m1 m2 m3 m4 m5 m7 m8
    rw [← Hn.out] at m2 m4
    obtain ⟨u, rfl⟩ := Int.eq_ofNat_of_zero_le m1
    obtain ⟨v, rfl⟩ := Int.eq_ofNat_of_zero_le m3
    have hun : u < n := by omega
    have hvn : v < n := by omega
    obtain ⟨L, hL⟩ : ∃ L, L = ledAt (List.replicate n false) (pre.map (·.1)) := ⟨_, rfl⟩
    have hLn : L.length = n := by rw [hL, ledAt_length, List.length_replicate]
    rw [← hL] at hB
    have eL : ledAt (List.replicate n false) ((pre ++ [(⟨((u : Int), (v : Int)), hx⟩ : EdgeOf code)]).map (·.1)) = if (u : Int) = v then L else L.set v true := by
      rw [List.map_append, List.map_singleton, ledAt_snoc, ← hL]
      simp
    have hcu : W.cell? ⟨g, u, none⟩ = some (.bool true) := by
      rw [hB.below.cell (by show g < _; omega)]
      have := OwnBools.cell HB.out.2.2.2 (k := u) (by rw [Hcl.out]; exact hun)
      rw [this, Hcan.out, (reachL_get Hh.out (by rw [← Hn.out]; exact hun)).2 (by simpa using m7)]
    have hcv : W.cell? ⟨g, v, none⟩ = some (.bool true) := by
      rw [hB.below.cell (by show g < _; omega)]
      have := OwnBools.cell HB.out.2.2.2 (k := v) (by rw [Hcl.out]; exact hvn)
      rw [this, Hcan.out, (reachL_get Hh.out (by rw [← Hn.out]; exact hvn)).2 (by simpa using m8)]
    have hlv : W.cell? ⟨wB.heap.size + 1, v, none⟩ = some (.bool (L.getD v false)) := OwnBools.cell hB.led (by rw [hLn]; exact hvn)
    have hfv : W.frozen? ⟨wB.heap.size + 1, v, none⟩ = false := OwnBools.free hB.led v
    have hcb := hB.cbox
    have hlb := hB.lbox
    have HS : Hid (KeepsFrom W0.heap.size W (W.setCell ⟨wB.heap.size + 1, v, none⟩ (.bool true)) ∧ KM (ledM wB.heap.size) W (W.setCell ⟨wB.heap.size + 1, v, none⟩ (.bool true)) ∧ CI wB (W.setCell ⟨wB.heap.size + 1, v, none⟩ (.bool true)) n (.slice (some ⟨g, 0, none⟩) n ca) (L.set v true)) :=
      ⟨(KeepsOthers.setCell _ _ _).from _, KM.setCell (fun W p u k hk => ⟨by have := hk.1; rw [size_set] at this; exact this, hk.2⟩) _ ⟨by show wB.heap.size + 1 < _; have := hB.size; omega, rfl⟩, hB.set v true⟩
    have HB2 := Lib.hid hB
    have HeL := Lib.hid eL
    generalize L.getD v false = y at hlv
    clear hB hL hLn eL m2 m4 m5 m7 m8
    by_cases huv : u = v
    · have hd : ((u : Int) != v) = false := by simp [huv]
      have Huv := Lib.hid huv
      clear huv
      gi_wp2
      refine ⟨KeepsFrom.refl _ _, ⟨Nat.le_refl _, fun k c e fz h _ => h, fun k h => .inl h, fun h => h⟩, ?_⟩
      show CI _ _ _ _ (ledAt _ _)
      rw [HeL.out, if_pos (by rw [Huv.out])]
      exact HB2.out
    · have hd : ((u : Int) != v) = true := by rw [bne_iff_ne]; omega
      have Huv := Lib.hid huv
      clear huv
      gi_wp2
      refine ⟨HS.out.1, HS.out.2.1, ?_⟩
      show CI _ _ _ _ (ledAt _ _)
      rw [HeL.out, if_neg (by have := Huv.out; omega)]
      exact HS.out.2.2
  case hdone =>
    rintro D xs W hD hxs hB hK
    rw [hxs] at hB
    rw [Hs0.out] at hD
    clear hstops hE0 hI0 hbel hfit
    obtain ⟨led, hled⟩ : ∃ led, led = ledAt (List.replicate n false) (edgesL code) := ⟨_, rfl⟩
    rw [← hled] at hB
    have hF : CF w wB W s vp regs words (.slice ac n cc) code g n ca D can led :=
      ⟨HB.out.1.later hB.below (by omega), SliceIn.later Hc.out (HB.out.2.1.trans (hB.below.mono (by omega))), hB.cbox, ownsRow_mono (ownsRow_below HB.out.2.2.2 hB.below (Nat.le_refl _)) (Nat.zero_le _), hB.lbox, ownsRow_mono hB.led (Nat.zero_le _),
        (hB.below.cell (by show w.heap.size + 1 < _; omega)).trans HB.out.2.2.1.1, (hB.below.frozen (by show w.heap.size + 1 < _; omega)).trans HB.out.2.2.1.2, hK, HB.out.2.1.trans (hB.below.mono (by omega)), ⟨by omega, hB.size, hD⟩⟩
    have HF := Lib.hid hF
    obtain ⟨f0, f1, f2, f3, f4⟩ := hF.fn
    have hcb := hF.cbox
    have hw1 : w.heap.size < W.heap.size := by have := hF.size; omega
    have Hled := Lib.hid hled
    clear hB hK hxs hF hled hq0 g0 g1' g2' g3 g4 hz1 hz2 hz3 hz4 hz5 hz6
    gi_wp2_with fail
    have hFm := HF.out.later ((Below.refl _ _).alloc (Nat.le_refl _) (.cells (zeroBools n) 4))
    refine (callsIn_wide.2 (blocks_any s vp regs words _ code _ Hlen.out hFm.code)).mono ?_
    rintro e W1 ⟨vL, rfl, hvL, hb1⟩
    obtain ⟨L, hL⟩ : ∃ L, L = blocksL code := ⟨_, rfl⟩
    rw [← hL] at hvL
    have hb1' : Below W.heap.size W W1 := ((Below.refl _ _).alloc (Nat.le_refl _) _).trans (hb1.mono (by simp))
    have hbeg : OwnBools W1 W.heap.size (.slice (some ⟨W.heap.size, 0, none⟩) n n) (begAt (List.replicate n false) (L.take 0)) := ownsRow_below (owns_zeroBools W n (Nat.le_refl _) (by omega)) hb1 (Nat.le_refl _)
    obtain ⟨aL, cL, rfl, haL⟩ : ∃ aL cL, vL = .slice aL L.length cL ∧ (0 < L.length → ∃ g, aL = some ⟨g, 0, none⟩ ∧ W.heap.size + 1 ≤ g) := by
      rcases hvL.form with ⟨h, h2⟩ | ⟨g, c, h, h2, _⟩
      · exact ⟨none, 0, by rw [h, h2]; rfl, by rw [h2]; simp⟩
      · exact ⟨_, _, h, fun _ => ⟨g, rfl, by simpa using h2⟩⟩
    obtain ⟨nL, hnL⟩ : ∃ nL, nL = L.length := ⟨_, rfl⟩
    rw [← hnL] at haL hvL ⊢
    have hnL2 : nL ≤ 1024 := by rw [hnL, hL]; exact blocksL_le code
    have hvL' : OwnInts W1 (W.heap.size + 1) (.slice aL nL cL) L := ownsRow_mono hvL (by simp)
    have HL := Lib.hid hL
    have HnL := Lib.hid hnL
    have H1 := Lib.hid (And.intro hb1' (And.intro hbeg hvL'))
    clear hFm hvL hvL' hb1 hb1' hbeg hL hnL f0 f1 f2 f3 f4 hcb hmk
    gi_wp2_with fail
    refine wpIn_wide.2 ?_
    go_loopg [9] nL (fun q i wr => ∃ k : Nat, k ≤ nL ∧ q = nL - k ∧ i = .int .i64 k ∧ OwnBools wr W.heap.size (.slice (some ⟨W.heap.size, 0, none⟩) n n) (begAt (List.replicate n false) (L.take k)) ∧ Below W.heap.size W wr ∧ OwnInts wr (W.heap.size + 1) (.slice aL nL cL) L)
    case atStart => exact ⟨0, Nat.zero_le _, rfl, rfl, H1.out.2.1, H1.out.1, H1.out.2.2⟩
    case round =>
      obtain ⟨k, hk, hq, rfl, hbk, hbl, hvk⟩ := hrel
      have Hq := Lib.hid hq
      have Hbk := Lib.hid hbk
      have Hbl := Lib.hid hbl
      have Hvk := Lib.hid hvk
      clear hq hbk hbl hvk
      by_cases hkn : k < nL
      · obtain ⟨gL, rfl, hgL⟩ := haL (by omega)
        have hkL : k < L.length := by rw [← HnL.out]; exact hkn
        have hat := blocksL_at Hh.out (i := k) (by rw [← HL.out]; exact hkL)
        rw [← HL.out, ← Hn.out, ← Hcan.out] at hat
        obtain ⟨x0, x1, x2, x3⟩ := hat
        have hcx := OwnInts.cell Hvk.out (k := k) hkL
        have htk : L.take (k + 1) = L.take k ++ [L.getD k 0] := by
          rw [List.take_add_one, List.getElem?_eq_getElem hkL, List.getD_eq_getElem?_getD, List.getElem?_eq_getElem hkL]; rfl
        obtain ⟨x, hx⟩ := Int.eq_ofNat_of_zero_le x0
        have hcp : 0 < k → wr.cell? ⟨gL, k - 1, none⟩ = some (.int .i64 (L.getD (k - 1) 0)) := fun h => OwnInts.cell Hvk.out (k := k - 1) (by omega)
        rw [hx] at hcx x1 x2 x3 htk
        simp only [Int.toNat_natCast] at x2
        have hxn : x < n := by omega
        have hF2 := HF.out.later Hbl.out
        have hcc := OwnBools.cell hF2.can (k := x) (by rw [Hcl.out]; exact hxn)
        rw [x2] at hcc
        have hcb := hF2.cbox
        have hbx := OwnBools.cell Hbk.out (k := x) (by rw [begAt_length, List.length_replicate]; exact hxn)
        have hbz := OwnBools.free Hbk.out x
        have hset := fun q => OwnBools.store (ownsRow_below Hbk.out (below_draws wr q) (Nat.le_refl _)) x true
        have eb : (begAt (List.replicate n false) (L.take k)).set x true = begAt (List.replicate n false) (L.take (k + 1)) := by rw [htk, begAt_snoc]; rfl
        rw [eb] at hset
        have HN : Hid (∀ q, OwnBools ((wr.drewN q).setCell ⟨W.heap.size, x, none⟩ (.bool true)) W.heap.size (.slice (some ⟨W.heap.size, 0, none⟩) n n) (begAt (List.replicate n false) (L.take (k + 1))) ∧ Below W.heap.size W ((wr.drewN q).setCell ⟨W.heap.size, x, none⟩ (.bool true)) ∧ OwnInts ((wr.drewN q).setCell ⟨W.heap.size, x, none⟩ (.bool true)) (W.heap.size + 1) (.slice (some ⟨gL, 0, none⟩) nL cL) L) := fun q =>
          ⟨hset q, (below_drewN Hbl.out q).setCell (Nat.le_refl _) _, ownsRow_setCell_other (ownsRow_below Hvk.out (below_draws wr q) (Nat.le_refl _)) (by simp [Value.ownBlock]; omega) _⟩
        generalize (begAt (List.replicate n false) (L.take k)).getD x false = y at hbx
        clear hset eb htk hF2 x0 x2 hx hkL
        have g1 : decide ((x : Int) < 0) = false := by simp
        have g2 : decide (n ≤ x) = false := by simp; omega
        have g3 : decide ((n : Int) ≤ (x : Int)) = false := by simp; omega
        by_cases h0 : 0 < k
        · replace hcp := hcp h0
          replace x3 := x3 h0
          generalize L.getD (k - 1) 0 = p at hcp x3
          have hd : decide ((0 : Int) < (k : Int)) = true := by simp; omega
          have e1 : ((k : Int) - 1).toNat = k - 1 := by omega
          have e2 : 0 ≤ (k : Int) - 1 := by omega
          have hd2 : decide (0 < k) = true := by simp; omega
          have g4 : decide ((x : Int) ≤ p) = false := by simp; omega
          go_wp2_with fail
          go_quiet (fail)
          go_wp2_with fail
          go_roundg (nL - (k + 1))
          case measure => have := Hq.out; omega
          case rel => exact ⟨k + 1, hkn, rfl, by go_num, HN.out _⟩
        · have hd : decide ((0 : Int) < (k : Int)) = false := by simp; omega
          have hd2 : decide (0 < k) = false := by simp; omega
          clear hcp x3
          go_wp2_with fail
          go_quiet (fail)
          go_wp2_with fail
          go_roundg (nL - (k + 1))
          case measure => have := Hq.out; omega
          case rel => exact ⟨k + 1, hkn, rfl, by go_num, HN.out _⟩
      · obtain rfl : k = nL := by omega
        obtain ⟨w2, rfl⟩ : ∃ w2 : World, w2 = wr := ⟨_, rfl⟩
        obtain ⟨beg, hbeg⟩ : ∃ beg, beg = begAt (List.replicate n false) (L.take k) := ⟨_, rfl⟩
        have hbe2 : beg = begAt (List.replicate n false) (blocksL code) := by rw [hbeg, ← HL.out, List.take_of_length_le (by rw [← HnL.out]; exact Nat.le_refl _)]
        have hbl2 : beg.length = n := by rw [hbeg, begAt_length, List.length_replicate]
        have hb0 := Hbk.out
        rw [← hbeg] at hb0
        have HB0 := Lib.hid hb0
        have Hbe2 := Lib.hid hbe2
        have Hbl2 := Lib.hid hbl2
        have hF2 := HF.out.later Hbl.out
        have HF2 := Lib.hid hF2
        have hcb := hF2.cbox
        clear hb0 hbe2 hbl2 hbeg hF2 H1 HF Hbk Hvk Hq
        go_wp2_with fail
        gi_wp2_with fail
        refine wpIn_wide.2 ?_
        go_loopg [10] n (fun q i wr => ∃ k : Nat, k ≤ n ∧ q = n - k ∧ i = .int .i64 k ∧ Below w2.heap.size w2 wr)
        case atStart => exact ⟨0, Nat.zero_le _, rfl, rfl, Below.refl _ _⟩
        case round =>
          obtain ⟨v, hv, hq, rfl, hbr⟩ := hrel
          have Hq := Lib.hid hq
          have Hbr := Lib.hid hbr
          have HFr := Lib.hid (HF2.out.later hbr)
          clear hq hbr hcb
          have hcb := HFr.out.cbox
          by_cases hvn : v < n
          · have hcc := OwnBools.cell HFr.out.can (k := v) (by rw [Hcl.out]; exact hvn)
            have hlb := HFr.out.lbox
            have hlc := OwnBools.cell HFr.out.led (k := v) (by rw [Hled.out, ledAt_length, List.length_replicate]; exact hvn)
            have hbc := OwnBools.cell (ownsRow_below HB0.out Hbr.out (Nat.le_refl _)) (k := v) (by rw [Hbl2.out]; exact hvn)
            cases hcan : can.getD v false
            · rw [hcan] at hcc
              clear hcan hlc hbc
              go_wp2_with fail
              go_roundg (n - (v + 1))
              case measure => have := Hq.out; omega
              case rel => exact ⟨v + 1, hvn, rfl, by go_num, Hbr.out⟩
            · rw [hcan] at hcc
              have hvc : v < code.length := by rw [← Hn.out]; exact hvn
              have hcan2 : (reachL code (-1)).getD v false = true := by rw [← Hcan.out]; exact hcan
              have hbm : (v : Int) ∈ blocksL code → beg.getD v false = true := fun h => by
                rw [Hbe2.out]
                have := begAt_mem (List.replicate n false) (blocksL code) h (by simp; omega)
                simpa using this
              by_cases h0 : v = 0
              · have hb1 : beg.getD v false = true := hbm (by rw [h0]; exact blocksL_zero Hh.out)
                rw [hb1] at hbc
                have hbz : wr.cell? ⟨W.heap.size, 0, none⟩ = some (.bool true) := by rw [h0] at hbc; exact hbc
                have hd1 : decide (0 < v) = false := by simp; omega
                have hd2 : decide ((0 : Int) < (v : Int)) = false := by simp; omega
                have hd3 : ((v : Int) == 0) = true := by simp; omega
                generalize led.getD v false = y at hlc
                clear h0 hb1 hbm hcan2 hcan hvc
                go_wp2_with fail
                go_roundg (n - (v + 1))
                case measure => have := Hq.out; omega
                case rel => exact ⟨v + 1, hvn, rfl, by go_num, Hbr.out⟩
              · have hle : led.getD v false = true := by rw [Hled.out, Hn.out]; exact led_all Hh.out hvc hcan2 (by omega)
                rw [hle] at hlc
                have hd1 : decide (0 < v) = true := by simp; omega
                have hd2 : decide ((0 : Int) < (v : Int)) = true := by simp; omega
                have hd3 : ((v : Int) == 0) = false := by simp; omega
                cases hbv : beg.getD v false
                · have hwi := blocksL_within Hh.out hvc hcan2 (fun h => by rw [hbm h] at hbv; cases hbv)
                  obtain ⟨_, hcp, hnx⟩ := hwi
                  rw [← Hcan.out] at hcp
                  rw [hbv] at hbc
                  have hcq := OwnBools.cell HFr.out.can (k := v - 1) (by rw [Hcl.out]; omega)
                  rw [hcp] at hcq
                  have e1 : ((v : Int) - 1).toNat = v - 1 := by omega
                  have e2 : 0 ≤ (v : Int) - 1 := by omega
                  have e3 : v - 1 < n := by omega
                  obtain ⟨f0, f1, f2, f3, f4⟩ := HFr.out.fn
                  have Hnx := Lib.hid hnx
                  clear h0 hle hbm hcan2 hcan hvc hcp hnx hbv
                  go_wp2_with fail
                  refine (next_any s vp regs words _ code _ _ Hlen.out HFr.out.code).mono ?_
                  rintro e w3 ⟨v9, rfl, hv9, hb3⟩
                  rw [Hnx.out] at hv9
                  have hx9 : IntsIn (w3.alloc (.cells #[.int .i64 (v : Int)] 3)) v9 [(v : Int)] := SliceIn.later (SliceIn.of_owns hv9) ((Below.refl _ _).alloc (Nat.le_refl _) _)
                  have Hx9 := Lib.hid hx9
                  have Hb3 : Hid (Below w2.heap.size w2 (w3.alloc (.cells #[.int .i64 (v : Int)] 3))) := (Hbr.out.trans (hb3.mono Hbr.out.size)).alloc (by have := Hbr.out.size; have := hb3.size; omega) _
                  clear hv9 hb3 hx9 f0 f1 f2 f3 f4
                  go_wp2_with fail
                  refine (sameInts_true _ _ [(v : Int)] _ Hx9.out (sliceIn_new w3 (intVs [(v : Int)]) 1 1 3 rfl (by decide)) (by simp)).mono ?_
                  rintro e w4 ⟨rfl, q4, rfl⟩
                  have Hb4 : Hid (Below w2.heap.size w2 ((w3.alloc (.cells #[.int .i64 (v : Int)] 3)).drewN q4)) := below_drewN Hb3.out _
                  go_wp2_with fail
                  go_roundg (n - (v + 1))
                  case measure => have := Hq.out; omega
                  case rel => exact ⟨v + 1, hvn, rfl, by go_num, Hb4.out⟩
                · rw [hbv] at hbc
                  clear h0 hle hbm hcan2 hcan hvc hbv
                  go_wp2_with fail
                  go_roundg (n - (v + 1))
                  case measure => have := Hq.out; omega
                  case rel => exact ⟨v + 1, hvn, rfl, by go_num, Hbr.out⟩
          · obtain rfl : v = n := by omega
            have hre := HFr.out.res
            have hfe := HFr.out.fres
            go_wp2_with fail
            gi_wp2_with fail
            have hsz := HFr.out.size
            have hdD : (wr.setCell ⟨w.heap.size + 1, 0, none⟩ (.bool true)).heap[D]? = some (.deferred (some [])) := by
              rw [Below.heap_setCell _ _ _ _ (by show D ≠ w.heap.size + 1; omega)]; exact HFr.out.d
            have hbD : Below (wB.heap.size + 4) (wr.setCell ⟨w.heap.size + 1, 0, none⟩ (.bool true)) ((wr.setCell ⟨w.heap.size + 1, 0, none⟩ (.bool true)).putObj D (.deferred none)) :=
              belowK_b (w := W0) (by rw [Hs0.out]; omega) _ D (.deferred (some [])) _ (by rw [Hs0.out]; exact hD) hdD rfl rfl
            have hres2 : ((wr.setCell ⟨w.heap.size + 1, 0, none⟩ (.bool true)).putObj D (.deferred none)).cell? ⟨w.heap.size + 1, 0, none⟩ = some (.bool true) := (hbD.cell (by show w.heap.size + 1 < _; omega)).trans (World.cell?_setCell_same' _ _ _ (by rw [hre]; rfl))
            refine ⟨by simp, .inl ⟨_, _, rfl, run_takeDeferred (ds := []) hdD, ?_⟩⟩
            refine ⟨.bool true, by rw [results_cell1 rfl]; go_simp, rfl, (HFr.out.below.setCell (by show w.heap.size ≤ w.heap.size + 1; omega) _).trans (hbD.mono (by omega))⟩

set_option maxRecDepth 100000 in
set_option maxHeartbeats 2000000 in
theorem lawCloses_any (s : ByteArray) (vp : Value) (regs words : Int) (vc : Value) (code : List Ins) (w : World) (hlen : code.length * 40 ≤ 140737488351232) (hc : CodeIn w vc code) :
    Calls Try.prog 7 #[fnV s vp regs words vc] w (Gives (.bool true) w) := by
  cases hh : hasB code
  · have er : reachL code (-1) = [] := by unfold reachL; simp [hh]
    have eb : blocksL code = [] := by unfold blocksL; rw [er]; rfl
    have Her := Lib.hid er
    have Heb := Lib.hid eb
    have Hlen := Lib.hid hlen
    have Hc := Lib.hid hc
    clear er eb hlen hc hh
    go_enter Try.func7, Try.ntmps7
    go_wp2_with fail
    obtain ⟨w0, hw0⟩ : ∃ w0 : World, w0 = (w.alloc (.cells #[.string s, vp, .int .i64 regs, .int .i64 words, vc] 25)).alloc (.cells #[.bool false] 4) := ⟨_, rfl⟩
    have hb0 : Below w.heap.size w w0 := by rw [hw0]; exact ((Below.refl _ _).alloc (Nat.le_refl _) _).alloc (by (try simp only [World.size_alloc]); (try simp only [size_set]); omega) _
    have hf0 : FnAt w0 w.heap.size s vp regs words vc := by rw [hw0]; exact (FnAt.box w s vp regs words _ _).later ((Below.refl (w.heap.size + 1) _).alloc (by (try simp only [World.size_alloc]); (try simp only [size_set]); omega) _) (Nat.lt_succ_self _)
    have hr0 : w0.cell? ⟨w.heap.size + 1, 0, none⟩ = some (.bool false) ∧ w0.frozen? ⟨w.heap.size + 1, 0, none⟩ = false := by
      rw [hw0]
      exact ⟨by rw [World.cell?_alloc_at _ _ _ _ (by simp)]; rfl, by rw [World.frozen?_alloc_at _ _ _ _ (by simp)]⟩
    have hs0 : w.heap.size + 2 ≤ w0.heap.size := by rw [hw0]; simp
    rw [← hw0]
    refine (fixed_any _).mono ?_
    rintro e wA ⟨rfl, hbA⟩
    obtain ⟨f0, f1, f2, f3, f4⟩ := hf0.later hbA (by omega)
    have HA : Hid (Below w.heap.size w wA ∧ (wA.cell? ⟨w.heap.size + 1, 0, none⟩ = some (.bool false) ∧ wA.frozen? ⟨w.heap.size + 1, 0, none⟩ = false) ∧ FnAt wA w.heap.size s vp regs words vc) :=
      ⟨hb0.trans (hbA.mono (by omega)), ⟨(hbA.cell (by show w.heap.size + 1 < _; omega)).trans hr0.1, (hbA.frozen (by show w.heap.size + 1 < _; omega)).trans hr0.2⟩, hf0.later hbA (by omega)⟩
    have hsA : w.heap.size + 2 ≤ wA.heap.size := Nat.le_trans hs0 hbA.size
    clear hw0 hb0 hf0 hr0 hs0 hbA
    go_wp2_with fail
    refine (reach_any s vp regs words vc code _ Hlen.out (SliceIn.later Hc.out HA.out.1)).mono ?_
    rintro e wB ⟨va, rfl, hva, hbB⟩
    rw [Her.out] at hva
    obtain ⟨aa, ca, rfl⟩ : ∃ aa ca, va = .slice aa 0 ca := by
      rcases hva.form with ⟨h, _⟩ | ⟨g, c, h, _⟩
      · exact ⟨_, _, h⟩
      · exact ⟨_, _, h⟩
    have hbv : Below w.heap.size w wB := HA.out.1.trans (hbB.mono (by omega))
    have HB : Hid (FnAt wB w.heap.size s vp regs words vc ∧ (wB.cell? ⟨w.heap.size + 1, 0, none⟩ = some (.bool false) ∧ wB.frozen? ⟨w.heap.size + 1, 0, none⟩ = false) ∧ Below w.heap.size w wB) :=
      ⟨HA.out.2.2.later hbB (by omega), ⟨(hbB.cell (by show w.heap.size + 1 < _; omega)).trans HA.out.2.1.1, (hbB.frozen (by show w.heap.size + 1 < _; omega)).trans HA.out.2.1.2⟩, hbv⟩
    have hsB : w.heap.size + 2 ≤ wB.heap.size := Nat.le_trans hsA hbB.size
    clear hva hbB hbv f0 f1 f2 f3 f4 hsA
    obtain ⟨f0, f1, f2, f3, f4⟩ := HB.out.1
    have hz1 : w.heap.size < wB.heap.size := by omega
    go_wp2_with fail
    have hbC : Below w.heap.size w (wB.alloc (.cells #[.slice aa 0 ca] 37)) := HB.out.2.2.alloc (by omega) _
    refine (blocks_any s vp regs words vc code _ Hlen.out (SliceIn.later Hc.out hbC)).mono ?_
    rintro e wC ⟨vl, rfl, hvl, hbD⟩
    rw [Heb.out] at hvl
    obtain ⟨al, cl, rfl⟩ : ∃ aa ca, vl = .slice aa 0 ca := by
      rcases hvl.form with ⟨h, _⟩ | ⟨g, c, h, _⟩
      · exact ⟨_, _, h⟩
      · exact ⟨_, _, h⟩
    have hbE : Below wB.heap.size wB wC := ((Below.refl _ _).alloc (Nat.le_refl _) _).trans (hbD.mono (by simp))
    have hr1 : wC.cell? ⟨w.heap.size + 1, 0, none⟩ = some (.bool false) := (hbE.cell (by show w.heap.size + 1 < _; omega)).trans HB.out.2.1.1
    have hr2 : wC.frozen? ⟨w.heap.size + 1, 0, none⟩ = false := (hbE.frozen (by show w.heap.size + 1 < _; omega)).trans HB.out.2.1.2
    have HE : Hid (Below w.heap.size w wC) := HB.out.2.2.trans (hbE.mono (by omega))
    clear hvl hbC hbD hbE f0 f1 f2 f3 f4
    go_wp2_with fail
    have hr3 : (wC.setCell ⟨w.heap.size + 1, 0, none⟩ (.bool true)).cell? ⟨w.heap.size + 1, 0, none⟩ = some (.bool true) := World.cell?_setCell_same' _ _ _ (by rw [hr1]; rfl)
    exact bodyPost_ret (v := .bool true) (by rw [results_cell1 rfl]; go_simp) rfl ⟨rfl, HE.out.setCell (by show w.heap.size ≤ w.heap.size + 1; omega) _⟩
  · exact closes_some s vp regs words vc code w hh hc
end Go.Proofs.Ytggkeodoenhmoaa
