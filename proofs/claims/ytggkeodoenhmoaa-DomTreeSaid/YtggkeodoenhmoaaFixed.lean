/- The calls whose answers the document fixes: all right. -/
import Derived.Test.YtggkeodoenhmoaaSample
import Derived.Test.YtggkeodoenhmoaaSame
namespace Go.Proofs.Ytggkeodoenhmoaa
open Go.RowKit Go.Shelf
attribute [local go_sem] Oper.semAt_some wide_fn

def foldN (l : List Edge) : Int := l.foldl (fun n e => n * 10 + e.1 - e.2 + 5) 0
theorem foldN_snoc (l : List Edge) (e : Edge) : foldN (l ++ [e]) = foldN l * 10 + e.1 - e.2 + 5 := by simp [foldN]

structure FI (w1 W : World) (gc : Nat) (l : List Edge) : Prop where
  n : W.cell? ⟨w1.heap.size + 1, 0, none⟩ = some (.int .i64 (foldN l))
  fr : W.frozen? ⟨w1.heap.size + 1, 0, none⟩ = false
  fn : FnAt W w1.heap.size ByteArray.empty (.slice none 0 0) 0 0 (.slice (some ⟨gc, 0, none⟩) 6 6)
  below : Below w1.heap.size w1 W
  size : w1.heap.size + 3 ≤ W.heap.size
  lo : 0 ≤ foldN l
  hi : foldN l + 2 ≤ 2 * 10 ^ l.length

def oneM (S : Nat) (W : World) (k : Nat) : Prop := k < W.heap.size ∧ k = S + 1
theorem oneM_fit (S Bf B : Nat) (h1 : Bf = S + 1 + 1) (h2 : S + 3 ≤ B) : MFit (oneM S) S Bf B := by
  refine ⟨fun W k h => ⟨by rcases h with ⟨_, h⟩; omega, by rcases h with ⟨_, h⟩; omega⟩, fun W W' hB _ k h => ⟨by rcases h with ⟨_, h⟩; omega, h.2⟩, fun W l o o' _ h ho k hk => ⟨by have := hk.1; simpa [World.putObj] using this, hk.2⟩⟩

theorem FI.turn {w1 W W' : World} {row : Option Nat} {gc : Nat} {l : List Edge} (h : FI w1 W gc l) (hg : W.grownBy W' row) (hr : ∀ r, row = some r → w1.heap.size + 3 ≤ r ∧ ∃ o : Obj, W.heap[r]? = some o ∧ o.isCells = false) : FI w1 W' gc l :=
  have hr' : ∀ r, row = some r → ∃ o : Obj, W.heap[r]? = some o ∧ o.isCells = false := fun r e => (hr r e).2
  ⟨cell_kept h.n hg hr', (frozen_kept h.n hg hr').trans h.fr, h.fn.turn hg hr', h.below.grown hg (by have := h.size; omega) (fun k e => by have := (hr k e).1; omega), Nat.le_trans h.size hg.size, h.lo, h.hi⟩

/-- What is kept behind the loop. -/
structure FX (w1 W : World) (gc D : Nat) : Prop where
  fn : FnAt W w1.heap.size ByteArray.empty (.slice none 0 0) 0 0 (.slice (some ⟨gc, 0, none⟩) 6 6)
  n : W.cell? ⟨w1.heap.size + 1, 0, none⟩ = some (.int .i64 414348)
  code : CodeIn W (.slice (some ⟨gc, 0, none⟩) 6 6) sampleCode
  d : W.heap[D]? = some (.deferred (some []))
  below : Below w1.heap.size w1 W
  size : w1.heap.size + 3 ≤ W.heap.size
theorem FX.later {w1 W W' : World} {gc D : Nat} (h : FX w1 W gc D) (hb : Below W.heap.size W W') : FX w1 W' gc D :=
  have hs := h.size
  ⟨h.fn.later hb (by omega), (hb.cell (by show w1.heap.size + 1 < _; omega)).trans h.n, SliceIn.later h.code hb, (hb.block D (Array.getElem?_eq_some_iff.1 h.d).1).trans h.d, h.below.trans (hb.mono (by omega)), Nat.le_trans h.size hb.size⟩

theorem sameInts_true (va vb : Value) (l : List Int) (w : World) (ha : IntsIn w va l) (hb : IntsIn w vb l) (hl : l.length ≤ 1000000000000000) : Calls Try.prog 16 #[va, vb] w (Reads (.bool true) w) :=
  (sameInts_any va vb l l w ha hb hl hl).mono fun e w' h => by rwa [decide_eq_true rfl] at h
theorem sameBools_true (va vb : Value) (l : List Bool) (w : World) (ha : BoolsIn w va l) (hb : BoolsIn w vb l) (hl : l.length ≤ 1000000000000000) : Calls Try.prog 20 #[va, vb] w (Reads (.bool true) w) :=
  (sameBools_any va vb l l w ha hb hl hl).mono fun e w' h => by rwa [decide_eq_true rfl] at h

set_option maxRecDepth 100000 in
set_option maxHeartbeats 2000000 in
theorem fixed_any (w : World) : Calls Try.prog 15 #[] w (Gives (.bool true) w) := by
  refine (callsIn_wide (n := 20)).1 ?_
  refine callsIn_of_wp_marks Try.func15 rfl trivial ?_ rfl
  simp only [Try.ntmps15, List.size_toArray, List.length_nil, Nat.reduceSub, Array.replicate_succ, Array.replicate_zero, List.push_toArray, List.append_toArray, List.nil_append, List.cons_append]
  gi_wp2_with fail
  refine (callsIn_wide.2 (sample_any _)).mono ?_
  rintro e w1 ⟨gc, rfl, hcode, hb1⟩
  have Hcode := Lib.hid hcode
  have Hb1 := Lib.hid hb1
  have hsz := hb1.size
  clear hcode hb1
  gi_wp2_with fail
  refine (callsIn_wide.2 (edges_any _ _ _ _ _ _)).mono ?_
  rintro e w2 ⟨rfl, rfl⟩
  have hfe : ∀ (w : World) (a : Addr), (Go.binOp .eql 46 (.func (.func 38) #[] #[.pointer (some a)]) .nilFunc).run Try.prog w = .ok (.bool false) w := fun w a => by kernel_rfl
  gi_wp2_with fail
  obtain ⟨F, hF⟩ : ∃ F : Array Value, F = #[.string ByteArray.empty, .slice none 0 0, .int .i64 0, .int .i64 0, .slice (some ⟨gc, 0, none⟩) 6 6] := ⟨_, rfl⟩
  obtain ⟨W0, hW0⟩ : ∃ W0 : World, W0 = ((w1.alloc (.cells #[.string ByteArray.empty, .slice none 0 0, .int .i64 0, .int .i64 0, .slice (some ⟨gc, 0, none⟩) 6 6] 25)).alloc (.cells #[.int .i64 0] 3)).alloc (.cells #[.string ByteArray.empty, .slice none 0 0, .int .i64 0, .int .i64 0, .slice (some ⟨gc, 0, none⟩) 6 6] 25) := ⟨_, rfl⟩
  rw [← hW0]
  have hs0 : W0.heap.size = w1.heap.size + 3 := by rw [hW0]; simp
  have hI0 : FI w1 W0 gc [] := by
    rw [hW0]
    refine ⟨?_, ?_, ?_, ((Below.refl _ _).alloc (Nat.le_refl _) _).alloc (by (try simp only [World.size_alloc]); (try simp only [size_set]); omega) _ |>.alloc (by (try simp only [World.size_alloc]); (try simp only [size_set]); omega) _, by simp, by simp [foldN], by simp [foldN]⟩
    · rw [World.cell?_alloc_past _ _ _ (by (try simp only [World.size_alloc]); (try simp only [size_set]); omega), World.cell?_alloc_at _ _ _ _ (by simp)]; rfl
    · rw [World.frozen?_alloc_past _ _ _ (by (try simp only [World.size_alloc]); (try simp only [size_set]); omega), World.frozen?_alloc_at _ _ _ _ (by simp)]
    · exact (FnAt.box w1 _ _ _ _ _ _).later (((Below.refl (w1.heap.size + 1) _).alloc (by (try simp only [World.size_alloc]); (try simp only [size_set]); omega) _).alloc (by (try simp only [World.size_alloc]); (try simp only [size_set]); omega) _) (Nat.lt_succ_self _)
  have hE0 : EAt w1 W0 (w1.heap.size + 1 + 1) ByteArray.empty (.slice none 0 0) 0 0 (.slice (some ⟨gc, 0, none⟩) 6 6) := by
    refine ⟨?_, hI0.below.size, fun p u hp hc => (hI0.below.cell hp).trans hc, by omega⟩
    have := FnAt.box ((w1.alloc (.cells #[.string ByteArray.empty, .slice none 0 0, .int .i64 0, .int .i64 0, .slice (some ⟨gc, 0, none⟩) 6 6] 25)).alloc (.cells #[.int .i64 0] 3)) ByteArray.empty (.slice none 0 0) 0 0 (.slice (some ⟨gc, 0, none⟩) 6 6) 25
    rw [hW0]
    simpa using this
  have hstops := edges_stops 19 (w1.heap.size + 1 + 1) (by omega) w1 ByteArray.empty (.slice none 0 0) 0 0 (.slice (some ⟨gc, 0, none⟩) 6 6) sampleCode (by decide) Hcode.out (oneM w1.heap.size) W0 (oneM_fit _ _ _ rfl (by omega)) hE0 (fun k hk => hk.1)
  clear hF F hW0
  apply wpIn_rangeFunc_ownG (F := Fence.wide) (n := 20) rfl (by omega) (gf := 38) (lb := #[.pointer (some ⟨w1.heap.size + 1 + 1, 0, none⟩)]) rfl trivial (enters_of Try.func38 (by kernel_rfl) rfl) hstops
    (fun h k => h.trans k) (fun W l o o' hl h ho _ => KM.put (oneM_fit w1.heap.size _ (w1.heap.size + 3) rfl (Nat.le_refl _)) W l o o' (by omega) h ho) (Below.refl _ _) (fun _ => rfl)
    (fun pre W => FI w1 W gc (pre.map (·.1)))
    (fun _ _ _ => False)
  case hI => exact fun q A B row h hg hr => h.turn hg (fun r e => by have := hr r e; exact ⟨by omega, this.2⟩)
  case hIx => exact fun _ _ _ _ _ hs _ _ => hs
  case h0 => exact hI0
  case hassign =>
    intro l x W K hK
    gi_wp2
    exact hK
  case hstop =>
    rintro D c pre W _ _ h _
    exact h.elim
  case hbody =>
    rintro l pre ⟨⟨u, v⟩, hx⟩ W hB hlt
    rw [sample_edges] at hlt
    simp only [List.length_cons, List.length_nil, Nat.zero_add, Nat.reduceAdd] at hlt
    obtain ⟨m1, m2, m3, m4, _⟩ := edgesL_mem hx
    have h6 : sampleCode.length = 6 := rfl
    rw [h6] at m2 m4
    simp only at m1 m2 m3 m4
    obtain ⟨n, hn⟩ : ∃ n, n = foldN (pre.map (·.1)) := ⟨_, rfl⟩
    have hlo := hB.lo
    have hhi := hB.hi
    have hcn := hB.n
    have hfr := hB.fr
    rw [← hn] at hlo hhi hcn
    have hn9 : n ≤ 2000000 := by
      have h1 : (10 : Int) ^ (pre.map (·.1)).length ≤ 10 ^ 5 := by
        rw [List.length_map]
        exact_mod_cast Nat.pow_le_pow_right (by omega) (show pre.length ≤ 5 by omega)
      omega
    have hk5 : KM (oneM w1.heap.size) W (W.setCell ⟨w1.heap.size + 1, 0, none⟩ (.int .i64 (n * 10 + u - v + 5))) :=
      KM.setCell (fun W p u k hk => ⟨by have := hk.1; rw [size_set] at this; exact this, hk.2⟩) _ ⟨by show w1.heap.size + 1 < _; have := hB.size; omega, rfl⟩
    have hfi : FI w1 (W.setCell ⟨w1.heap.size + 1, 0, none⟩ (.int .i64 (n * 10 + u - v + 5))) gc ((pre ++ [(⟨(u, v), hx⟩ : EdgeOf sampleCode)]).map (·.1)) := by
      have e : foldN ((pre ++ [(⟨(u, v), hx⟩ : EdgeOf sampleCode)]).map (·.1)) = n * 10 + u - v + 5 := by rw [List.map_append, List.map_singleton, foldN_snoc, ← hn]
      refine ⟨?_, ?_, hB.fn.later ((Below.refl (w1.heap.size + 1) _).setCell (Nat.le_refl _) _) (Nat.lt_succ_self _), hB.below.setCell (by show _ ≤ w1.heap.size + 1; omega) _, by rw [size_set]; exact hB.size, by rw [e]; omega, ?_⟩
      · rw [e]; exact World.cell?_setCell_same' _ _ _ (by rw [hcn]; rfl)
      · rw [World.frozen?_setCell]; exact hfr
      · rw [e, List.map_append, List.length_append, List.map_singleton, List.length_singleton, Int.pow_succ]
        omega
    have Hk5 := Lib.hid hk5
    have Hfi := Lib.hid hfi
    clear hk5 hfi hn hhi hB hstops hE0 hI0
    gi_wp2
    exact ⟨(KeepsOthers.setCell _ _ _).from _, Hk5.out, Hfi.out⟩
  case hdone =>
    rintro D xs W hD hxs hB hK
    rw [hxs, sample_edges] at hB
    have hX : FX w1 W gc D := ⟨hB.fn, hB.n, SliceIn.later Hcode.out hB.below, hK, hB.below, hB.size⟩
    have HX := Lib.hid hX
    clear hB hK hxs hX hstops hE0 hI0
    obtain ⟨f0, f1, f2, f3, f4⟩ := HX.out.fn
    gi_wp2_with fail
    refine (callsIn_wide.2 (next_any _ _ _ _ _ sampleCode 1 _ (by decide) HX.out.code)).mono ?_
    rintro e wA ⟨vA, rfl, hA, hbA⟩
    rw [sample_next] at hA
    have HXA := Lib.hid (HX.out.later hbA)
    have hcA : IntsIn (wA.alloc (.cells #[.int .i64 2, .int .i64 3] 3)) vA [2, 3] := SliceIn.later (SliceIn.of_owns hA) ((Below.refl _ _).alloc (Nat.le_refl _) _)
    have HcA := Lib.hid hcA
    clear hA hbA hcA f0 f1 f2 f3 f4
    gi_wp2_with fail
    refine (callsIn_wide.2 (sameInts_true _ _ [2, 3] _ HcA.out (sliceIn_new wA (intVs [2, 3]) 2 1 3 rfl (by decide)) (by decide))).mono ?_
    rintro e wB ⟨rfl, qB, rfl⟩
    have HXB : Hid (FX w1 ((wA.alloc (.cells #[.int .i64 2, .int .i64 3] 3)).drewN qB) gc D) := HXA.out.later (below_drewN ((Below.refl _ _).alloc (Nat.le_refl _) _) _)
    obtain ⟨wB, hwB⟩ : ∃ wB : World, wB = (wA.alloc (.cells #[.int .i64 2, .int .i64 3] 3)).drewN qB := ⟨_, rfl⟩
    rw [← hwB] at HXB ⊢
    clear hwB
    obtain ⟨f0, f1, f2, f3, f4⟩ := HXB.out.fn
    gi_wp2_with fail
    refine (callsIn_wide.2 (blocks_any _ _ _ _ _ sampleCode _ (by decide) HXB.out.code)).mono ?_
    rintro e wC ⟨vC, rfl, hC, hbC⟩
    rw [sample_blocks] at hC
    have HXC := Lib.hid (HXB.out.later hbC)
    have hcC : IntsIn (wC.alloc (.cells (intVs [0, 1, 2, 3, 4]).toArray 3)) vC [0, 1, 2, 3, 4] := SliceIn.later (SliceIn.of_owns hC) ((Below.refl _ _).alloc (Nat.le_refl _) _)
    have HcC := Lib.hid hcC
    clear hC hbC hcC f0 f1 f2 f3 f4
    gi_wp2_with fail
    refine (callsIn_wide.2 (sameInts_true _ _ [0, 1, 2, 3, 4] _ HcC.out (sliceIn_new wC (intVs [0, 1, 2, 3, 4]) 5 1 3 rfl (by decide)) (by decide))).mono ?_
    rintro e wD ⟨rfl, qD, rfl⟩
    have HXD : Hid (FX w1 ((wC.alloc (.cells #[.int .i64 0, .int .i64 1, .int .i64 2, .int .i64 3, .int .i64 4] 3)).drewN qD) gc D) := HXC.out.later (below_drewN ((Below.refl _ _).alloc (Nat.le_refl _) _) _)
    obtain ⟨wD, hwD⟩ : ∃ wD : World, wD = (wC.alloc (.cells #[.int .i64 0, .int .i64 1, .int .i64 2, .int .i64 3, .int .i64 4] 3)).drewN qD := ⟨_, rfl⟩
    rw [← hwD] at HXD
    have ewD : (wC.alloc (.cells (intVs [0, 1, 2, 3, 4]).toArray 3)).drewN qD = wD := hwD.symm
    rw [ewD]
    clear hwD ewD
    obtain ⟨f0, f1, f2, f3, f4⟩ := HXD.out.fn
    gi_wp2_with fail
    refine (callsIn_wide.2 (reach_any _ _ _ _ _ sampleCode _ (by decide) HXD.out.code)).mono ?_
    rintro e wE ⟨vE, rfl, hE, hbE⟩
    rw [sample_reach] at hE
    have HXE := Lib.hid (HXD.out.later hbE)
    have hcE : BoolsIn (wE.alloc (.cells (boolVs [true, true, true, true, true, false]).toArray 4)) vE [true, true, true, true, true, false] := SliceIn.later (SliceIn.of_owns hE) ((Below.refl _ _).alloc (Nat.le_refl _) _)
    have HcE := Lib.hid hcE
    clear hE hbE hcE f0 f1 f2 f3 f4
    gi_wp2_with fail
    refine (callsIn_wide.2 (sameBools_true _ _ [true, true, true, true, true, false] _ HcE.out (sliceIn_new wE (boolVs [true, true, true, true, true, false]) 6 1 4 rfl (by decide)) (by decide))).mono ?_
    rintro e wF ⟨rfl, qF, rfl⟩
    have HXF : Hid (FX w1 ((wE.alloc (.cells #[.bool true, .bool true, .bool true, .bool true, .bool true, .bool false] 4)).drewN qF) gc D) := HXE.out.later (below_drewN ((Below.refl _ _).alloc (Nat.le_refl _) _) _)
    obtain ⟨wF, hwF⟩ : ∃ wF : World, wF = (wE.alloc (.cells #[.bool true, .bool true, .bool true, .bool true, .bool true, .bool false] 4)).drewN qF := ⟨_, rfl⟩
    rw [← hwF] at HXF
    have ewF : (wE.alloc (.cells (boolVs [true, true, true, true, true, false]).toArray 4)).drewN qF = wF := hwF.symm
    rw [ewF]
    clear hwF ewF
    have hn := HXF.out.n
    gi_wp2_with fail
    refine ⟨by simp, .inl ⟨_, _, rfl, run_takeDeferred HXF.out.d, ?_⟩⟩
    refine ⟨_, results_tmp rfl _ _ _, rfl, ?_⟩
    have hsz2 := HXF.out.size
    exact Hb1.out.trans ((HXF.out.below.mono (Nat.le_refl _)).trans (belowK_b (w := w1) (Nat.le_refl _) wF D _ _ (by omega) HXF.out.d rfl rfl) |>.mono hsz)
end Go.Proofs.Ytggkeodoenhmoaa
