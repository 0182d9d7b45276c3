/- dom.Tree: it returns, in new memory, the nearest dominators. -/
import Derived.Test.YtapjdndcnenadaaDoorFrom
import Derived.Test.YtapjdndcnenadaaDoorOrder
namespace Go.Proofs.YtapjdndcnenadaaDoor
open Go.RowKit Go.Shelf
attribute [local go_sem] Oper.semAt_some wide_fn

/-- The list of -1, as far as it is made. -/
def minusTo (n k : Nat) : List Int := (List.range n).map fun j => if j < k then -1 else 0
theorem minusTo_length (n k : Nat) : (minusTo n k).length = n := by simp [minusTo]
theorem minusTo_get (n k j : Nat) (hj : j < n) : (minusTo n k).getD j 0 = if j < k then -1 else 0 := by simp [minusTo, List.getD, hj]
theorem getDi_ext {l m : List Int} (h : l.length = m.length) (hg : ∀ j, j < l.length → l.getD j 0 = m.getD j 0) : l = m := by
  apply List.ext_getElem h
  intro j h1 h2
  have := hg j h1
  simpa [List.getD, h1, h2] using this
theorem minusTo_zero (n : Nat) : minusTo n 0 = List.replicate n 0 := by
  refine getDi_ext (by simp [minusTo_length]) fun j hj => ?_
  rw [minusTo_length] at hj
  rw [minusTo_get _ _ _ hj]; simp [List.getD, hj]
theorem minusTo_all (n : Nat) : minusTo n n = List.replicate n (-1) := by
  refine getDi_ext (by simp [minusTo_length]) fun j hj => ?_
  rw [minusTo_length] at hj
  rw [minusTo_get _ _ _ hj]; simp [List.getD, hj]
theorem minusTo_step (n k : Nat) : minusTo n (k + 1) = (minusTo n k).set k (-1) := by
  refine getDi_ext (by simp [minusTo_length]) fun j hj => ?_
  rw [minusTo_length] at hj
  rw [minusTo_get _ _ _ hj, getD_set_any, minusTo_length, minusTo_get _ _ _ hj]
  repeat' split
  all_goals first
    | rfl
    | (exfalso; omega)

/-- The ranks, as far as they are given. -/
def rankTo (n : Nat) (l : List Nat) : Nat → List Int
  | 0 => List.replicate n 0
  | k + 1 => (rankTo n l k).set (l.getD k 0) (k : Int)
theorem rankTo_length (n : Nat) (l : List Nat) (k : Nat) : (rankTo n l k).length = n := by
  induction k with
  | zero => simp [rankTo]
  | succ k ih => simp [rankTo, ih]
theorem rankTo_ok {code : List Ins} {l : List Nat} (ho : OrdOK code l) (hh : 0 < code.length) (k : Nat) (hk : k ≤ l.length) : ∀ (j v : Nat), j < k → l[j]? = some v → (rankTo code.length l k).getD v 0 = (j : Int) := by
  induction k with
  | zero => intro j v h; omega
  | succ k ih =>
    intro j v hj hv
    have hvl : v < code.length := ((ho.mem v).1 (List.mem_of_getElem? hv)).lt hh
    rw [rankTo, getD_set_any, rankTo_length]
    have hkl : k < l.length := hk
    have ek : l.getD k 0 = l[k] := by simp [List.getD, hkl]
    by_cases hjk : j = k
    · subst hjk
      have : v = l[j] := by rw [List.getElem?_eq_getElem hkl] at hv; exact (Option.some.inj hv).symm
      rw [if_pos ⟨by rw [ek]; exact this, by rw [ek, ← this]; exact hvl⟩]
    · have hne : v ≠ l[k] := by
        intro e
        have hp := List.pairwise_iff_getElem.1 (List.nodup_iff_pairwise_ne.1 ho.nodup) j k (by omega) hkl (by omega)
        obtain ⟨h1, h2⟩ := List.getElem?_eq_some_iff.1 hv
        exact hp (by rw [h2, e])
      rw [if_neg (fun e => hne (by rw [← ek]; exact e.1))]
      exact ih (by omega) j v (by omega) hv

structure T1 (w wr : World) (n : Nat) (s : ByteArray) (vp : Value) (regs words : Int) (vc : Value) (rank near : List Int) : Prop where
  fn : FnAt wr w.heap.size s vp regs words vc
  rank : OwnInts wr (w.heap.size + 1) (.slice (some ⟨w.heap.size + 1, 0, none⟩) n n) rank
  near : OwnInts wr (w.heap.size + 1) (.slice (some ⟨w.heap.size + 2, 0, none⟩) n n) near
  below : Below w.heap.size w wr
  size : w.heap.size + 3 ≤ wr.heap.size
theorem T1.later {w wr w' : World} {n : Nat} {s : ByteArray} {vp : Value} {regs words : Int} {vc : Value} {rank near : List Int} (h : T1 w wr n s vp regs words vc rank near) (hb : Below wr.heap.size wr w') : T1 w w' n s vp regs words vc rank near :=
  have hs := h.size
  ⟨h.fn.later hb (by omega), ownsRow_below h.rank hb (Nat.le_refl _), ownsRow_below h.near hb (Nat.le_refl _), h.below.trans (hb.mono (by omega)), Nat.le_trans h.size hb.size⟩
theorem T1.setNear {w wr : World} {n : Nat} {s : ByteArray} {vp : Value} {regs words : Int} {vc : Value} {rank near : List Int} (h : T1 w wr n s vp regs words vc rank near) (v : Nat) (x : Int) :
    T1 w (wr.setCell ⟨w.heap.size + 2, v, none⟩ (.int .i64 x)) n s vp regs words vc rank (near.set v x) :=
  ⟨h.fn.later ((Below.refl (w.heap.size + 1) _).setCell (by show w.heap.size + 1 ≤ w.heap.size + 2; omega) _) (Nat.lt_succ_self _), ownsRow_setCell_other h.rank (by simp [Value.ownBlock]) _, OwnInts.store h.near v x, h.below.setCell (by show w.heap.size ≤ w.heap.size + 2; omega) _, by rw [size_set]; exact h.size⟩
theorem T1.setRank {w wr : World} {n : Nat} {s : ByteArray} {vp : Value} {regs words : Int} {vc : Value} {rank near : List Int} (h : T1 w wr n s vp regs words vc rank near) (v : Nat) (x : Int) :
    T1 w (wr.setCell ⟨w.heap.size + 1, v, none⟩ (.int .i64 x)) n s vp regs words vc (rank.set v x) near :=
  ⟨h.fn.later ((Below.refl (w.heap.size + 1) _).setCell (Nat.le_refl _) _) (Nat.lt_succ_self _), OwnInts.store h.rank v x, ownsRow_setCell_other h.near (by simp [Value.ownBlock]) _, h.below.setCell (by show w.heap.size ≤ w.heap.size + 1; omega) _, by rw [size_set]; exact h.size⟩

/-- Within the loop over the edges, behind the world wC: the list of lists and its box. -/
structure TF (wC W : World) (n : Nat) (vs : List Value) (es : List Edge) : Prop where
  lists : FromIn W (wC.heap.size + 3) wC.heap.size n vs (preL es)
  box : W.cell? ⟨wC.heap.size + 1, 0, none⟩ = some (.slice (some ⟨wC.heap.size, 0, none⟩) n n)
  below : Below wC.heap.size wC W
  size : wC.heap.size + 3 ≤ W.heap.size
theorem TF.turn {wC W W' : World} {row : Option Nat} {n : Nat} {vs : List Value} {es : List Edge} (h : TF wC W n vs es) (hg : W.grownBy W' row) (hr : ∀ r, row = some r → wC.heap.size + 3 ≤ r ∧ ∃ o : Obj, W.heap[r]? = some o ∧ o.isCells = false) : TF wC W' n vs es :=
  have hr' : ∀ r, row = some r → ∃ o : Obj, W.heap[r]? = some o ∧ o.isCells = false := fun r e => (hr r e).2
  ⟨h.lists.turn hg hr', cell_kept h.box hg hr', h.below.grown hg (by have := h.size; omega) (fun k e => by have := (hr k e).1; omega), Nat.le_trans h.size hg.size⟩

/-- A round of that loop. -/
theorem TF.step {wC W w' : World} {n : Nat} {vs : List Value} {es : List Edge} (h : TF wC W n vs es) {u v : Nat} (hv : v < n) {v' : Value}
    (ho : OwnInts w' (wC.heap.size + 3) v' (preL es v ++ [(u : Int)])) (hgr : (W.drew.alloc (.cells #[.int .i64 (u : Int)] 3)).grownBy w' (vs.getD v nilV).ownBlock) (hfr : Fresh (W.drew.alloc (.cells #[.int .i64 (u : Int)] 3)) (vs.getD v nilV) v')
    (hbb : ∀ (C : Nat) (w0 : World), Below C w0 W.drew → C ≤ wC.heap.size + 3 → Below C w0 w') :
    (w'.cell? ⟨wC.heap.size, v, none⟩ = some (vs.getD v nilV) ∧ w'.cell? ⟨wC.heap.size + 1, 0, none⟩ = some (.slice (some ⟨wC.heap.size, 0, none⟩) n n)) ∧ w'.frozen? ⟨wC.heap.size, v, none⟩ = false ∧
    (KeepsFrom (wC.heap.size + 3) W (w'.setCell ⟨wC.heap.size, v, none⟩ v') ∧ KM (fromM (wC.heap.size + 3) wC.heap.size n) W (w'.setCell ⟨wC.heap.size, v, none⟩ v') ∧
      TF wC (w'.setCell ⟨wC.heap.size, v, none⟩ v') n (vs.set v v') (es ++ [((u : Int), (v : Int))])) := by
  have hD : FromIn W.drew (wC.heap.size + 3) wC.heap.size n vs (preL es) := h.lists.later (Below.refl _ _).drew
  have hb3 := hbb (wC.heap.size + 3) W (Below.refl _ _).drew (Nat.le_refl _)
  have e1 := hb3.cell (p := ⟨wC.heap.size, v, none⟩) (by show wC.heap.size < _; omega)
  have e2 := hb3.frozen (p := ⟨wC.heap.size, v, none⟩) (by show wC.heap.size < _; omega)
  have hsz := hgr.size
  rw [World.size_alloc] at hsz
  have hszd : W.drew.heap.size = W.heap.size := rfl
  have e3 := (hb3.cell (p := ⟨wC.heap.size + 1, 0, none⟩) (by show wC.heap.size + 1 < _; omega)).trans h.box
  refine ⟨⟨e1.trans (h.lists.cell hv), e3⟩, e2.trans (h.lists.free v), ?_, ?_, ?_, ?_, ?_, ?_⟩
  · refine KeepsFrom.trans (Y := w') ⟨by omega, fun k o _ hk hc => ?_⟩ ((KeepsOthers.setCell _ _ _).from _)
    have hkl : k < W.heap.size := (Array.getElem?_eq_some_iff.1 hk).1
    rw [hgr.block k (by rw [World.size_alloc]; omega) (fun e => ?_), ((Below.refl W.heap.size W).drew.alloc (Nat.le_refl _) (.cells #[.int .i64 (u : Int)] 3)).block k hkl]
    · exact hk
    · rcases (h.lists.each v hv).2 with ⟨h2, _⟩ | ⟨g, cp, cur, h2, _, h3, _⟩
      · rw [h2] at e; simp [Value.ownBlock] at e
      · rw [h2] at e
        have : k = g := by simpa [Value.ownBlock] using e
        subst this
        rw [hk] at h3
        cases h3
        cases hc
  · exact KM.trans (KM.drew (fromM_fit (wC.heap.size + 3) wC.heap.size n wC.heap.size (wC.heap.size + 2) (Nat.le_refl _) (by omega) (by omega)) h.size) (fromM_keeps hD hv ho hgr hfr)
  · have := hD.grow hv ho hgr hfr
    have el : (fun x => if x = v then preL es v ++ [(u : Int)] else preL es x) = preL (es ++ [((u : Int), (v : Int))]) := by
      funext x
      rw [preL_snoc]
      by_cases hx : x = v
      · subst hx; simp
      · rw [if_neg hx, if_neg (by simp; omega), List.append_nil]
    rw [el] at this
    exact this
  · rw [World.cell?_setCell_other _ _ _ _ (by simp)]
    exact (hb3.cell (p := ⟨wC.heap.size + 1, 0, none⟩) (by show wC.heap.size + 1 < _; omega)).trans h.box
  · exact (hbb _ _ h.below.drew (by omega)).setCell (Nat.le_refl _) _
  · rw [size_set]; have := h.size; omega

/-- Behind it: all that the rounds read. -/
structure TN (w wC W : World) (D n N : Nat) (s : ByteArray) (vp : Value) (regs words : Int) (vc : Value) (gl cl : Nat) (l : List Nat) (rank near : List Int) (vs : List Value) (code : List Ins) : Prop where
  t : T1 w W n s vp regs words vc rank near
  l : OwnInts W (w.heap.size + 3) (.slice (some ⟨gl, 0, none⟩) N cl) (ints l)
  lists : FromIn W (wC.heap.size + 3) wC.heap.size n vs (preL (edgesL code))
  box : W.cell? ⟨wC.heap.size + 1, 0, none⟩ = some (.slice (some ⟨wC.heap.size, 0, none⟩) n n)
  d : W.heap[D]? = some (.deferred (some []))
  size : w.heap.size + 3 ≤ wC.heap.size ∧ wC.heap.size + 3 ≤ W.heap.size ∧ wC.heap.size + 3 ≤ D
section
variable {w wC W W' : World} {D n N : Nat} {s : ByteArray} {vp : Value} {regs words : Int} {vc : Value} {gl cl : Nat} {l : List Nat} {rank near : List Int} {vs : List Value} {code : List Ins}
theorem TN.later (h : TN w wC W D n N s vp regs words vc gl cl l rank near vs code) (hb : Below W.heap.size W W') : TN w wC W' D n N s vp regs words vc gl cl l rank near vs code :=
  have hs := h.size
  ⟨h.t.later hb, ownsRow_below h.l hb (Nat.le_refl _), h.lists.later hb, (hb.cell (by show wC.heap.size + 1 < _; omega)).trans h.box, (hb.block D (Array.getElem?_eq_some_iff.1 h.d).1).trans h.d, ⟨hs.1, Nat.le_trans hs.2.1 hb.size, hs.2.2⟩⟩
theorem TN.draws (h : TN w wC W D n N s vp regs words vc gl cl l rank near vs code) (q : Nat) : TN w wC (W.drewN q) D n N s vp regs words vc gl cl l rank near vs code := h.later (below_draws W q)
theorem TN.set (h : TN w wC W D n N s vp regs words vc gl cl l rank near vs code) (v : Nat) (x : Int) : TN w wC (W.setCell ⟨w.heap.size + 2, v, none⟩ (.int .i64 x)) D n N s vp regs words vc gl cl l rank (near.set v x) vs code :=
  have hs := h.size
  ⟨h.t.setNear v x, ownsRow_setCell_below (a := ⟨w.heap.size + 2, v, none⟩) h.l (by show w.heap.size + 2 < _; omega) _, h.lists.other (by show w.heap.size + 2 < _; omega) _, (World.cell?_setCell_other _ _ _ _ (by intro e; have := congrArg Addr.block e; simp at this; omega)).trans h.box,
    (by rw [Below.heap_setCell _ _ _ _ (by show D ≠ w.heap.size + 2; omega)]; exact h.d), ⟨hs.1, by rw [size_set]; exact hs.2.1, hs.2.2⟩⟩
end

set_option maxRecDepth 100000 in
set_option maxHeartbeats 8000000 in
theorem tree_some (s : ByteArray) (vp : Value) (regs words : Int) (vc : Value) (code : List Ins) (w : World) (hh : hasB code = true) (hc : CodeIn w vc code) :
    Calls Tryd.prog 33 #[fnV s vp regs words vc] w (fun e w' => ∃ l, IsTree code l ∧ RetInts l w e w') := by
  have hpos : 0 < code.length ∧ code.length ≤ 1024 := by simpa [hasB] using hh
  obtain ⟨hp0, hp1⟩ := hpos
  have hcv := hc
  obtain ⟨-, ac, cc, rfl, -⟩ := hcv
  have Hc := Lib.hid hc
  have Hh := Lib.hid hh
  have Hlen : Hid (code.length * 40 ≤ 140737488351232) := by show _ ≤ _; omega
  obtain ⟨n, hn⟩ : ∃ n, n = code.length := ⟨_, rfl⟩
  rw [← hn] at hp0 hp1 Hc ⊢
  have Hn := Lib.hid hn
  clear hc hh hn
  have hmi := fun w => make_ints_run n (by omega) w
  have hzn : ((n : Int) == 0) = false := beq_eq_false_iff_ne.2 (by omega)
  refine (callsIn_wide (n := 8)).1 ?_
  refine callsIn_of_wp_marks Tryd.func33 rfl trivial ?_ rfl
  simp only [Tryd.ntmps33, List.size_toArray, List.length_cons, List.length_nil, Nat.reduceAdd, Nat.reduceSub, Array.replicate_succ, Array.replicate_zero, List.push_toArray, List.append_toArray, List.nil_append, List.cons_append]
  refine wpIn_wide.2 ?_
  go_wp2_with fail
  go_step3
  go_wp2_with fail
  obtain ⟨w0, hw0⟩ : ∃ w0 : World, w0 = ((w.alloc (.cells #[.string s, vp, .int .i64 regs, .int .i64 words, .slice ac n cc] 25)).alloc (.cells (zeroInts n) 3)).alloc (.cells (zeroInts n) 3) := ⟨_, rfl⟩
  have hT0 : T1 w w0 n s vp regs words (.slice ac n cc) (List.replicate n 0) (minusTo n 0) := by
    refine ⟨?_, ?_, ?_, ?_, by rw [hw0]; simp⟩
    · rw [hw0]; exact (FnAt.box w s vp regs words _ _).later (((Below.refl (w.heap.size + 1) _).alloc (by (try simp only [World.size_alloc]); (try simp only [size_set]); omega) _).alloc (by (try simp only [World.size_alloc]); (try simp only [size_set]); omega) _) (Nat.lt_succ_self _)
    · rw [hw0]
      have := owns_zeroInts (w.alloc (.cells #[.string s, vp, .int .i64 regs, .int .i64 words, .slice ac n cc] 25)) (B := w.heap.size + 1) n (by simp) (by omega)
      rw [World.size_alloc] at this
      exact World.ownsRow.alloc this _
    · rw [hw0, minusTo_zero]
      have := owns_zeroInts ((w.alloc (.cells #[.string s, vp, .int .i64 regs, .int .i64 words, .slice ac n cc] 25)).alloc (.cells (zeroInts n) 3)) (B := w.heap.size + 1) n (by simp) (by omega)
      rw [World.size_alloc, World.size_alloc] at this
      exact this
    · rw [hw0]; exact (((Below.refl _ _).alloc (Nat.le_refl _) _).alloc (by (try simp only [World.size_alloc]); (try simp only [size_set]); omega) _).alloc (by (try simp only [World.size_alloc]); (try simp only [size_set]); omega) _
  have HT0 := Lib.hid hT0
  rw [← hw0]
  clear hT0 hw0 hmi hzn
  go_loopg [5, 38] n (fun g _ i wr => ∃ k : Nat, k ≤ n ∧ g = n - k ∧ i = .int .i64 (k : Int) ∧ T1 w wr n s vp regs words (.slice ac n cc) (List.replicate n 0) (minusTo n k))
  case atStart => exact ⟨0, Nat.zero_le _, rfl, rfl, HT0.out⟩
  case round =>
    obtain ⟨k, hk, hg, rfl, hT⟩ := hrel
    have Hg := Lib.hid hg
    have HT := Lib.hid hT
    clear hg hT HT0
    by_cases hkn : k < n
    · have ck := OwnInts.cell HT.out.near (k := k) (by rw [minusTo_length]; exact hkn)
      have zk := OwnInts.free HT.out.near k
      have HN : Hid (T1 w (wr.setCell ⟨w.heap.size + 2, k, none⟩ (.int .i64 (-1))) n s vp regs words (.slice ac n cc) (List.replicate n 0) (minusTo n (k + 1))) := by
        show T1 _ _ _ _ _ _ _ _ _ _
        rw [minusTo_step]; exact HT.out.setNear k (-1)
      generalize (minusTo n k).getD k 0 = y at ck
      go_wp2_with fail
      go_roundg (n - (k + 1))
      case measure => have := Hg.out; omega
      case rel => exact ⟨k + 1, hkn, rfl, by go_num, HN.out⟩
    · obtain rfl : n = k := by omega
      obtain ⟨wA, rfl⟩ : ∃ wA : World, wA = wr := ⟨_, rfl⟩
      obtain ⟨f0, f1, f2, f3, f4⟩ := HT.out.fn
      have Hcode : Hid (CodeIn wA (.slice ac n cc) code) := SliceIn.later Hc.out HT.out.below
      clear hk hkn Hg
      go_wp2_with fail
      refine (order_any s vp regs words _ code _ Hh.out Hcode.out).mono ?_
      rintro e w1 ⟨l, hok, vl, rfl, hvl, hb1⟩
      obtain ⟨al, cl, rfl, hal⟩ : ∃ al cl, vl = .slice al l.length cl ∧ (0 < l.length → ∃ g, al = some ⟨g, 0, none⟩ ∧ wA.heap.size ≤ g ∧ l.length ≤ cl) := by
        rcases hvl.form with ⟨h, h2⟩ | ⟨g, c, h, h2, _, h4⟩
        · have h3 := ints_length l
          rw [h2] at h3
          exact ⟨none, 0, by rw [h, ← h3]; rfl, by rw [← h3]; simp⟩
        · exact ⟨some ⟨g, 0, none⟩, c, by rw [h, ints_length], fun _ => ⟨g, rfl, h2, by rw [← ints_length]; exact h4⟩⟩
      have hlpos : 0 < l.length := (List.getElem?_eq_some_iff.1 hok.first).1
      obtain ⟨gl, rfl, hgl, hlcl⟩ := hal hlpos
      have hln : l.length ≤ n := by
        have : l.length ≤ (List.range n).length := List.Nodup.length_le_of_subset hok.nodup (fun v hv => List.mem_range.2 (by rw [Hn.out]; exact ((hok.mem v).1 hv).lt (by rw [← Hn.out]; exact hp0)))
        simpa using this
      obtain ⟨N, hN⟩ : ∃ N, N = l.length := ⟨_, rfl⟩
      rw [← hN] at hvl hlpos hln hlcl ⊢
      have hsA : w.heap.size + 3 ≤ wA.heap.size := HT.out.size
      have HT1 := Lib.hid (HT.out.later hb1)
      have Hvl : Hid (OwnInts w1 (w.heap.size + 3) (.slice (some ⟨gl, 0, none⟩) N cl) (ints l)) := ownsRow_mono hvl hsA
      have Hok := Lib.hid hok
      have HN := Lib.hid hN
      have hgl3 : w.heap.size + 3 ≤ gl := by omega
      clear hvl hb1 hok hN hal hgl hsA Hcode HT f0 f1 f2 f3 f4
      go_wp2_with fail
      go_loopg [7, 8, 49] N (fun g _ _ i wr => ∃ k : Nat, k ≤ N ∧ g = N - k ∧ i = .int .i64 (k : Int) ∧ T1 w wr n s vp regs words (.slice ac n cc) (rankTo n l k) (minusTo n n) ∧ OwnInts wr (w.heap.size + 3) (.slice (some ⟨gl, 0, none⟩) N cl) (ints l))
      case atStart => exact ⟨0, Nat.zero_le _, rfl, rfl, HT1.out, Hvl.out⟩
      case round =>
        obtain ⟨k, hk, hg, rfl, hT, hv⟩ := hrel
        have Hg := Lib.hid hg
        have HT := Lib.hid hT
        have Hv := Lib.hid hv
        clear hg hT hv HT1 Hvl
        by_cases hkn : k < N
        · have ck := OwnInts.cell Hv.out (k := k) (by rw [ints_length, ← HN.out]; exact hkn)
          rw [ints_getD] at ck
          obtain ⟨v, hv⟩ : ∃ v, v = l.getD k 0 := ⟨_, rfl⟩
          rw [← hv] at ck
          have hvn : v < n := by
            have hkl : k < l.length := by rw [← HN.out]; exact hkn
            have : v ∈ l := by rw [hv]; exact getD_mem hkl
            rw [Hn.out]; exact ((Hok.out.mem v).1 this).lt (by rw [← Hn.out]; exact hp0)
          have cr := OwnInts.cell HT.out.rank (k := v) (by rw [rankTo_length]; exact hvn)
          have zr := OwnInts.free HT.out.rank v
          have HN2 : Hid (T1 w (wr.setCell ⟨w.heap.size + 1, v, none⟩ (.int .i64 (k : Int))) n s vp regs words (.slice ac n cc) (rankTo n l (k + 1)) (minusTo n n) ∧ OwnInts (wr.setCell ⟨w.heap.size + 1, v, none⟩ (.int .i64 (k : Int))) (w.heap.size + 3) (.slice (some ⟨gl, 0, none⟩) N cl) (ints l)) := by
            refine ⟨?_, ownsRow_setCell_below (a := ⟨w.heap.size + 1, v, none⟩) Hv.out (by show w.heap.size + 1 < _; omega) _⟩
            rw [rankTo, ← hv]; exact HT.out.setRank v k
          generalize (rankTo n l k).getD v 0 = y at cr
          clear hv
          go_wp2_with fail
          go_roundg (N - (k + 1))
          case measure => have := Hg.out; omega
          case rel => exact ⟨k + 1, hkn, rfl, by go_num, HN2.out.1, HN2.out.2⟩
        · obtain rfl : N = k := by omega
          obtain ⟨wB, rfl⟩ : ∃ wB : World, wB = wr := ⟨_, rfl⟩
          obtain ⟨f0, f1, f2, f3, f4⟩ := HT.out.fn
          have hsB : w.heap.size < wB.heap.size := by have := HT.out.size; omega
          have hmr := fun w => make_rows_run n (by omega) w
          have hs3 : w.heap.size < wB.heap.size + 1 := by omega
          have hs4 : w.heap.size < wB.heap.size + 1 + 1 := by omega
          have hs5 : w.heap.size ≤ wB.heap.size := by omega
          have hs6 : w.heap.size ≤ wB.heap.size + 1 := by omega
          clear hk hkn Hg
          go_wp2_with fail
          refine (edges_any _ _ _ _ _ _).mono ?_
          rintro e w2 ⟨rfl, rfl⟩
          go_wp2_with fail
          refine (wpIn_wide (n := 8)).1 ?_
          obtain ⟨wC, rfl⟩ : ∃ wC : World, wC = wB := ⟨_, rfl⟩
          obtain ⟨W0, hW0⟩ : ∃ W0 : World, W0 = ((wC.alloc (.cells (nilRows n) 38)).alloc (.cells #[.slice (some ⟨wC.heap.size, 0, none⟩) n n] 50)).alloc (.cells #[.string s, vp, .int .i64 regs, .int .i64 words, .slice ac n cc] 25) := ⟨_, rfl⟩
          rw [← hW0]
          have hs0 : W0.heap.size = wC.heap.size + 3 := by rw [hW0]; simp
          have hbel : Below wC.heap.size wC W0 := by rw [hW0]; exact ((Below.refl _ _).alloc (Nat.le_refl _) _).alloc (by (try simp only [World.size_alloc]); (try simp only [size_set]); omega) _ |>.alloc (by (try simp only [World.size_alloc]); (try simp only [size_set]); omega) _
          have hI0 : TF wC W0 n (List.replicate n nilV) [] := by
            have hf := FromIn.start wC (B := wC.heap.size + 3) n (by omega) (by omega)
            have hf2 := (hf.later ((Below.refl _ _).alloc (Nat.le_refl _) (.cells #[.slice (some ⟨wC.heap.size, 0, none⟩) n n] 50))).later ((Below.refl _ _).alloc (Nat.le_refl _) (.cells #[.string s, vp, .int .i64 regs, .int .i64 words, .slice ac n cc] 25))
            refine ⟨by rw [hW0]; exact hf2, ?_, hbel, by omega⟩
            rw [hW0, World.cell?_alloc_past _ _ _ (by (try simp only [World.size_alloc]); (try simp only [size_set]); omega), World.cell?_alloc_at _ _ _ _ (by simp)]; rfl
          have hE0 : EAt wC W0 (wC.heap.size + 1 + 1) s vp regs words (.slice ac n cc) := by
            refine ⟨?_, hbel.size, fun p u hp hc => (hbel.cell hp).trans hc, by omega⟩
            have := FnAt.box ((wC.alloc (.cells (nilRows n) 38)).alloc (.cells #[.slice (some ⟨wC.heap.size, 0, none⟩) n n] 50)) s vp regs words (.slice ac n cc) 25
            rw [hW0]
            simpa using this
          have hfit : MFit (fromM (wC.heap.size + 3) wC.heap.size n) wC.heap.size (wC.heap.size + 1 + 1) W0.heap.size := by rw [hs0]; exact fromM_fit _ _ _ _ _ (Nat.le_refl _) (by omega) (by omega)
          have hstops := edges_stops 7 (wC.heap.size + 1 + 1) (by omega) wC s vp regs words (.slice ac n cc) code Hlen.out (SliceIn.later Hc.out HT.out.below) (fromM (wC.heap.size + 3) wC.heap.size n) W0 hfit hE0 (fromM_lt hI0.lists)
          have Hs0 := Lib.hid hs0
          clear hW0 hs0 hmr hs3 hs4 hs5 hs6
          apply wpIn_rangeFunc_ownG (F := Fence.wide) (n := 8) rfl (by omega) (gf := 43) (lb := #[.pointer (some ⟨wC.heap.size + 1 + 1, 0, none⟩)]) rfl trivial (enters_of Tryd.func43 (by kernel_rfl) rfl) hstops
            (fun h k => h.trans k) (fun W l o o' hl h ho _ => KM.put hfit W l o o' hl h ho) (Below.refl _ _) (fun _ => rfl)
            (fun pre W => ∃ vs, TF wC W n vs (pre.map (·.1)))
            (fun _ _ _ => False)
          case hI => exact fun q A B row h hg hr => by obtain ⟨vs, h⟩ := h; exact ⟨vs, h.turn hg (fun r e => by have := hr r e; rw [Hs0.out] at this; exact ⟨by omega, this.2⟩)⟩
          case hIx => exact fun _ _ _ _ _ hs _ _ => hs
          case h0 => exact ⟨_, hI0⟩
          case hassign =>
            intro l x W K hK
            gi_wp2
            exact hK
          case hstop =>
            rintro D c pre W _ _ h _
            exact h.elim
          case hbody =>
            rintro l0 pre ⟨⟨u, v⟩, hx⟩ W ⟨vs, hB⟩ hlt
            clear hstops hE0 hI0
            obtain ⟨m1, m2, m3, m4, m5, _, m7, m8⟩ := edgesL_mem hx
            simp only at m1 m2 m3 m4 m5 m7 m8
            rw [← Hn.out] at m2 m4
            obtain ⟨u, rfl⟩ := Int.eq_ofNat_of_zero_le m1
            obtain ⟨v, rfl⟩ := Int.eq_ofNat_of_zero_le m3
            have hvn : v < n := by omega
            obtain ⟨L, hL⟩ : ∃ L, L = pre.map (·.1) := ⟨_, rfl⟩
            have hLl : L.length ≤ 2048 := by
              rw [hL, List.length_map]
              have := edgesL_le code; omega
            rw [← hL] at hB
            have HF3 : Hid (∀ (v' : Value) (w' : World), OwnInts w' (wC.heap.size + 3) v' (preL L v ++ [(u : Int)]) → (W.drew.alloc (.cells #[.int .i64 (u : Int)] 3)).grownBy w' (vs.getD v nilV).ownBlock → Fresh (W.drew.alloc (.cells #[.int .i64 (u : Int)] 3)) (vs.getD v nilV) v' →
                (∀ (C : Nat) (w0 : World), Below C w0 W.drew → C ≤ wC.heap.size + 3 → Below C w0 w') →
                (w'.cell? ⟨wC.heap.size, v, none⟩ = some (vs.getD v nilV) ∧ w'.cell? ⟨wC.heap.size + 1, 0, none⟩ = some (.slice (some ⟨wC.heap.size, 0, none⟩) n n)) ∧ w'.frozen? ⟨wC.heap.size, v, none⟩ = false ∧
                (KeepsFrom W0.heap.size W (w'.setCell ⟨wC.heap.size, v, none⟩ v') ∧ KM (fromM (wC.heap.size + 3) wC.heap.size n) W (w'.setCell ⟨wC.heap.size, v, none⟩ v') ∧
                  ∃ vs2, TF wC (w'.setCell ⟨wC.heap.size, v, none⟩ v') n vs2 ((pre ++ [(⟨((u : Int), (v : Int)), hx⟩ : EdgeOf code)]).map (·.1)))) := by
              intro v' w' h1 h2 h3 h4
              obtain ⟨r1, r2, r3, r4, r5⟩ := hB.step hvn h1 h2 h3 h4
              refine ⟨r1, r2, by rw [Hs0.out]; exact r3, r4, vs.set v v', ?_⟩
              rw [List.map_append, List.map_singleton, ← hL]
              exact r5
            have hcb := hB.box
            have hcv := hB.lists.cell hvn
            have Hown : Hid (OwnInts W.drew (wC.heap.size + 3) (vs.getD v nilV) (preL L v)) := World.ownsRow.drew (hB.lists.each v hvn)
            have Hlo : Hid ((preL L v).length ≤ 1000000000000) := Nat.le_trans (preL_len _ _) (by omega)
            have HsD : Hid (wC.heap.size + 3 ≤ W.drew.heap.size) := hB.size
            generalize vs.getD v nilV = vq at hcv Hown HF3
            have hW1 : wC.heap.size < W.heap.size := by have := hB.size; omega
            have hW2 : wC.heap.size + 1 < W.heap.size := by have := hB.size; omega
            clear hB hL m2 m4 m5 m7 m8
            gi_wp2
            refine wpIn_region_as_any (by kernel_rfl) (by kernel_rfl) (by rintro ⟨a, w, h⟩; exact h) ?_
            refine wpAny_take (i := 1) rfl (by kernel_rfl) (by kernel_rfl) (by kernel_rfl) (fun _ _ _ h => h) (Or.inl ⟨by rfl, fun w => by go_simp; try rfl⟩) ?_
            refine wpAny_take (i := 3) rfl (by kernel_rfl) (by kernel_rfl) (by kernel_rfl) (fun _ _ _ h => h) (Or.inl ⟨by rfl, fun w => by go_simp; try rfl⟩) ?_
            refine wpAny_take (i := 6) rfl (by kernel_rfl) (by kernel_rfl) (by kernel_rfl) (fun _ _ _ h => h) (Or.inl ⟨by rfl, fun w => by go_simp; try rfl⟩) ?_
            refine wpAny_ready (rs := [0, 2, 7]) (by kernel_rfl) (by simp) ?_
            refine AllReady.cons rfl (fun K hK => ?_) ?_
            · go_simp
              refine hK _ _ ?_
              clear hK K
              refine wpAny_ready (rs := [2, 7]) (by kernel_rfl) (by simp) ?_
              refine AllReady.cons rfl (fun K hK => ?_) ?_
              · go_simp
                refine hK _ _ ?_
                clear hK K
                refine wpAny_take (i := 4) rfl (by kernel_rfl) (by kernel_rfl) (by kernel_rfl) (fun _ _ _ h => h) (Or.inl ⟨by rfl, fun w => by go_simp; try rfl⟩) ?_
                refine wpAny_ready (rs := [5, 7]) (by kernel_rfl) (by simp) ?_
                refine AllReady.cons rfl (fun K hK => ?_) ?_
                · go_simp
                  refine hK _ _ ?_
                  clear hK K
                  refine wpAny_ready (rs := [7]) (by kernel_rfl) (by simp) ?_
                  refine AllReady.cons rfl (fun K hK => ?_) ?_
                  · go_simp
                    refine hK _ _ ?_
                    clear hK K
                    refine wpAny_ready (rs := [8]) (by kernel_rfl) (by simp) ?_
                    refine AllReady.cons rfl (fun K hK => ?_) ?_
                    · refine append_int_wp _ _ rfl (wC.heap.size + 3) vq _ rfl Hown.out (u : Int) _ rfl rfl Hlo.out HsD.out ?_
                      intro v' w' ho' hgr hfr hbb
                      obtain ⟨a', l', c', rfl⟩ := ints_any ho'
                      obtain ⟨⟨hcF, hcB⟩, hzF, hFin⟩ := HF3.out _ w' ho' hgr hfr hbb
                      have HFin := Lib.hid hFin
                      clear ho' hgr hfr hbb hFin
                      refine hK _ _ ?_
                      clear hK K
                      refine wpAny_take (i := 9) rfl (by kernel_rfl) (by kernel_rfl) (by kernel_rfl) (fun _ _ _ h => h) (Or.inl ⟨by rfl, fun w => by go_simp; try rfl⟩) ?_
                      refine wpAny_ready (rs := [10]) (by kernel_rfl) (by simp) ?_
                      refine AllReady.cons rfl (fun K hK => ?_) ?_
                      · go_simp
                        refine hK _ _ ?_
                        clear hK K
                        refine wpAny_done (by kernel_rfl) ?_ _
                        (gi_wp2; exact HFin.out)
                      exact AllReady.nil
                    exact AllReady.nil
                  exact AllReady.nil
                refine AllReady.cons rfl (fun K hK => ?_) ?_
                · go_simp
                  refine hK _ _ ?_
                  clear hK K
                  refine wpAny_ready (rs := [5]) (by kernel_rfl) (by simp) ?_
                  refine AllReady.cons rfl (fun K hK => ?_) ?_
                  · go_simp
                    refine hK _ _ ?_
                    clear hK K
                    refine wpAny_ready (rs := [8]) (by kernel_rfl) (by simp) ?_
                    refine AllReady.cons rfl (fun K hK => ?_) ?_
                    · refine append_int_wp _ _ rfl (wC.heap.size + 3) vq _ rfl Hown.out (u : Int) _ rfl rfl Hlo.out HsD.out ?_
                      intro v' w' ho' hgr hfr hbb
                      obtain ⟨a', l', c', rfl⟩ := ints_any ho'
                      obtain ⟨⟨hcF, hcB⟩, hzF, hFin⟩ := HF3.out _ w' ho' hgr hfr hbb
                      have HFin := Lib.hid hFin
                      clear ho' hgr hfr hbb hFin
                      refine hK _ _ ?_
                      clear hK K
                      refine wpAny_take (i := 9) rfl (by kernel_rfl) (by kernel_rfl) (by kernel_rfl) (fun _ _ _ h => h) (Or.inl ⟨by rfl, fun w => by go_simp; try rfl⟩) ?_
                      refine wpAny_ready (rs := [10]) (by kernel_rfl) (by simp) ?_
                      refine AllReady.cons rfl (fun K hK => ?_) ?_
                      · go_simp
                        refine hK _ _ ?_
                        clear hK K
                        refine wpAny_done (by kernel_rfl) ?_ _
                        (gi_wp2; exact HFin.out)
                      exact AllReady.nil
                    exact AllReady.nil
                  exact AllReady.nil
                exact AllReady.nil
              refine AllReady.cons rfl (fun K hK => ?_) ?_
              · go_simp
                refine hK _ _ ?_
                clear hK K
                refine wpAny_ready (rs := [2]) (by kernel_rfl) (by simp) ?_
                refine AllReady.cons rfl (fun K hK => ?_) ?_
                · go_simp
                  refine hK _ _ ?_
                  clear hK K
                  refine wpAny_take (i := 4) rfl (by kernel_rfl) (by kernel_rfl) (by kernel_rfl) (fun _ _ _ h => h) (Or.inl ⟨by rfl, fun w => by go_simp; try rfl⟩) ?_
                  refine wpAny_ready (rs := [5]) (by kernel_rfl) (by simp) ?_
                  refine AllReady.cons rfl (fun K hK => ?_) ?_
                  · go_simp
                    refine hK _ _ ?_
                    clear hK K
                    refine wpAny_ready (rs := [8]) (by kernel_rfl) (by simp) ?_
                    refine AllReady.cons rfl (fun K hK => ?_) ?_
                    · refine append_int_wp _ _ rfl (wC.heap.size + 3) vq _ rfl Hown.out (u : Int) _ rfl rfl Hlo.out HsD.out ?_
                      intro v' w' ho' hgr hfr hbb
                      obtain ⟨a', l', c', rfl⟩ := ints_any ho'
                      obtain ⟨⟨hcF, hcB⟩, hzF, hFin⟩ := HF3.out _ w' ho' hgr hfr hbb
                      have HFin := Lib.hid hFin
                      clear ho' hgr hfr hbb hFin
                      refine hK _ _ ?_
                      clear hK K
                      refine wpAny_take (i := 9) rfl (by kernel_rfl) (by kernel_rfl) (by kernel_rfl) (fun _ _ _ h => h) (Or.inl ⟨by rfl, fun w => by go_simp; try rfl⟩) ?_
                      refine wpAny_ready (rs := [10]) (by kernel_rfl) (by simp) ?_
                      refine AllReady.cons rfl (fun K hK => ?_) ?_
                      · go_simp
                        refine hK _ _ ?_
                        clear hK K
                        refine wpAny_done (by kernel_rfl) ?_ _
                        (gi_wp2; exact HFin.out)
                      exact AllReady.nil
                    exact AllReady.nil
                  exact AllReady.nil
                exact AllReady.nil
              exact AllReady.nil
            refine AllReady.cons rfl (fun K hK => ?_) ?_
            · go_simp
              refine hK _ _ ?_
              clear hK K
              refine wpAny_take (i := 4) rfl (by kernel_rfl) (by kernel_rfl) (by kernel_rfl) (fun _ _ _ h => h) (Or.inl ⟨by rfl, fun w => by go_simp; try rfl⟩) ?_
              refine wpAny_ready (rs := [0, 5, 7]) (by kernel_rfl) (by simp) ?_
              refine AllReady.cons rfl (fun K hK => ?_) ?_
              · go_simp
                refine hK _ _ ?_
                clear hK K
                refine wpAny_ready (rs := [5, 7]) (by kernel_rfl) (by simp) ?_
                refine AllReady.cons rfl (fun K hK => ?_) ?_
                · go_simp
                  refine hK _ _ ?_
                  clear hK K
                  refine wpAny_ready (rs := [7]) (by kernel_rfl) (by simp) ?_
                  refine AllReady.cons rfl (fun K hK => ?_) ?_
                  · go_simp
                    refine hK _ _ ?_
                    clear hK K
                    refine wpAny_ready (rs := [8]) (by kernel_rfl) (by simp) ?_
                    refine AllReady.cons rfl (fun K hK => ?_) ?_
                    · refine append_int_wp _ _ rfl (wC.heap.size + 3) vq _ rfl Hown.out (u : Int) _ rfl rfl Hlo.out HsD.out ?_
                      intro v' w' ho' hgr hfr hbb
                      obtain ⟨a', l', c', rfl⟩ := ints_any ho'
                      obtain ⟨⟨hcF, hcB⟩, hzF, hFin⟩ := HF3.out _ w' ho' hgr hfr hbb
                      have HFin := Lib.hid hFin
                      clear ho' hgr hfr hbb hFin
                      refine hK _ _ ?_
                      clear hK K
                      refine wpAny_take (i := 9) rfl (by kernel_rfl) (by kernel_rfl) (by kernel_rfl) (fun _ _ _ h => h) (Or.inl ⟨by rfl, fun w => by go_simp; try rfl⟩) ?_
                      refine wpAny_ready (rs := [10]) (by kernel_rfl) (by simp) ?_
                      refine AllReady.cons rfl (fun K hK => ?_) ?_
                      · go_simp
                        refine hK _ _ ?_
                        clear hK K
                        refine wpAny_done (by kernel_rfl) ?_ _
                        (gi_wp2; exact HFin.out)
                      exact AllReady.nil
                    exact AllReady.nil
                  exact AllReady.nil
                refine AllReady.cons rfl (fun K hK => ?_) ?_
                · go_simp
                  refine hK _ _ ?_
                  clear hK K
                  refine wpAny_ready (rs := [5]) (by kernel_rfl) (by simp) ?_
                  refine AllReady.cons rfl (fun K hK => ?_) ?_
                  · go_simp
                    refine hK _ _ ?_
                    clear hK K
                    refine wpAny_ready (rs := [8]) (by kernel_rfl) (by simp) ?_
                    refine AllReady.cons rfl (fun K hK => ?_) ?_
                    · refine append_int_wp _ _ rfl (wC.heap.size + 3) vq _ rfl Hown.out (u : Int) _ rfl rfl Hlo.out HsD.out ?_
                      intro v' w' ho' hgr hfr hbb
                      obtain ⟨a', l', c', rfl⟩ := ints_any ho'
                      obtain ⟨⟨hcF, hcB⟩, hzF, hFin⟩ := HF3.out _ w' ho' hgr hfr hbb
                      have HFin := Lib.hid hFin
                      clear ho' hgr hfr hbb hFin
                      refine hK _ _ ?_
                      clear hK K
                      refine wpAny_take (i := 9) rfl (by kernel_rfl) (by kernel_rfl) (by kernel_rfl) (fun _ _ _ h => h) (Or.inl ⟨by rfl, fun w => by go_simp; try rfl⟩) ?_
                      refine wpAny_ready (rs := [10]) (by kernel_rfl) (by simp) ?_
                      refine AllReady.cons rfl (fun K hK => ?_) ?_
                      · go_simp
                        refine hK _ _ ?_
                        clear hK K
                        refine wpAny_done (by kernel_rfl) ?_ _
                        (gi_wp2; exact HFin.out)
                      exact AllReady.nil
                    exact AllReady.nil
                  exact AllReady.nil
                exact AllReady.nil
              refine AllReady.cons rfl (fun K hK => ?_) ?_
              · go_simp
                refine hK _ _ ?_
                clear hK K
                refine wpAny_ready (rs := [0, 7]) (by kernel_rfl) (by simp) ?_
                refine AllReady.cons rfl (fun K hK => ?_) ?_
                · go_simp
                  refine hK _ _ ?_
                  clear hK K
                  refine wpAny_ready (rs := [7]) (by kernel_rfl) (by simp) ?_
                  refine AllReady.cons rfl (fun K hK => ?_) ?_
                  · go_simp
                    refine hK _ _ ?_
                    clear hK K
                    refine wpAny_ready (rs := [8]) (by kernel_rfl) (by simp) ?_
                    refine AllReady.cons rfl (fun K hK => ?_) ?_
                    · refine append_int_wp _ _ rfl (wC.heap.size + 3) vq _ rfl Hown.out (u : Int) _ rfl rfl Hlo.out HsD.out ?_
                      intro v' w' ho' hgr hfr hbb
                      obtain ⟨a', l', c', rfl⟩ := ints_any ho'
                      obtain ⟨⟨hcF, hcB⟩, hzF, hFin⟩ := HF3.out _ w' ho' hgr hfr hbb
                      have HFin := Lib.hid hFin
                      clear ho' hgr hfr hbb hFin
                      refine hK _ _ ?_
                      clear hK K
                      refine wpAny_take (i := 9) rfl (by kernel_rfl) (by kernel_rfl) (by kernel_rfl) (fun _ _ _ h => h) (Or.inl ⟨by rfl, fun w => by go_simp; try rfl⟩) ?_
                      refine wpAny_ready (rs := [10]) (by kernel_rfl) (by simp) ?_
                      refine AllReady.cons rfl (fun K hK => ?_) ?_
                      · go_simp
                        refine hK _ _ ?_
                        clear hK K
                        refine wpAny_done (by kernel_rfl) ?_ _
                        (gi_wp2; exact HFin.out)
                      exact AllReady.nil
                    exact AllReady.nil
                  exact AllReady.nil
                refine AllReady.cons rfl (fun K hK => ?_) ?_
                · go_simp
                  refine hK _ _ ?_
                  clear hK K
                  refine wpAny_ready (rs := [0, 8]) (by kernel_rfl) (by simp) ?_
                  refine AllReady.cons rfl (fun K hK => ?_) ?_
                  · go_simp
                    refine hK _ _ ?_
                    clear hK K
                    refine wpAny_ready (rs := [8]) (by kernel_rfl) (by simp) ?_
                    refine AllReady.cons rfl (fun K hK => ?_) ?_
                    · refine append_int_wp _ _ rfl (wC.heap.size + 3) vq _ rfl Hown.out (u : Int) _ rfl rfl Hlo.out HsD.out ?_
                      intro v' w' ho' hgr hfr hbb
                      obtain ⟨a', l', c', rfl⟩ := ints_any ho'
                      obtain ⟨⟨hcF, hcB⟩, hzF, hFin⟩ := HF3.out _ w' ho' hgr hfr hbb
                      have HFin := Lib.hid hFin
                      clear ho' hgr hfr hbb hFin
                      refine hK _ _ ?_
                      clear hK K
                      refine wpAny_take (i := 9) rfl (by kernel_rfl) (by kernel_rfl) (by kernel_rfl) (fun _ _ _ h => h) (Or.inl ⟨by rfl, fun w => by go_simp; try rfl⟩) ?_
                      refine wpAny_ready (rs := [10]) (by kernel_rfl) (by simp) ?_
                      refine AllReady.cons rfl (fun K hK => ?_) ?_
                      · go_simp
                        refine hK _ _ ?_
                        clear hK K
                        refine wpAny_done (by kernel_rfl) ?_ _
                        (gi_wp2; exact HFin.out)
                      exact AllReady.nil
                    exact AllReady.nil
                  refine AllReady.cons rfl (fun K hK => ?_) ?_
                  · refine append_int_wp _ _ rfl (wC.heap.size + 3) vq _ rfl Hown.out (u : Int) _ rfl rfl Hlo.out HsD.out ?_
                    intro v' w' ho' hgr hfr hbb
                    obtain ⟨a', l', c', rfl⟩ := ints_any ho'
                    obtain ⟨⟨hcF, hcB⟩, hzF, hFin⟩ := HF3.out _ w' ho' hgr hfr hbb
                    have HFin := Lib.hid hFin
                    clear ho' hgr hfr hbb hFin
                    refine hK _ _ ?_
                    clear hK K
                    refine wpAny_ready (rs := [0]) (by kernel_rfl) (by simp) ?_
                    refine AllReady.cons rfl (fun K hK => ?_) ?_
                    · go_simp
                      refine hK _ _ ?_
                      clear hK K
                      refine wpAny_take (i := 9) rfl (by kernel_rfl) (by kernel_rfl) (by kernel_rfl) (fun _ _ _ h => h) (Or.inl ⟨by rfl, fun w => by go_simp; try rfl⟩) ?_
                      refine wpAny_ready (rs := [10]) (by kernel_rfl) (by simp) ?_
                      refine AllReady.cons rfl (fun K hK => ?_) ?_
                      · go_simp
                        refine hK _ _ ?_
                        clear hK K
                        refine wpAny_done (by kernel_rfl) ?_ _
                        (gi_wp2; exact HFin.out)
                      exact AllReady.nil
                    exact AllReady.nil
                  exact AllReady.nil
                exact AllReady.nil
              refine AllReady.cons rfl (fun K hK => ?_) ?_
              · go_simp
                refine hK _ _ ?_
                clear hK K
                refine wpAny_ready (rs := [0, 5]) (by kernel_rfl) (by simp) ?_
                refine AllReady.cons rfl (fun K hK => ?_) ?_
                · go_simp
                  refine hK _ _ ?_
                  clear hK K
                  refine wpAny_ready (rs := [5]) (by kernel_rfl) (by simp) ?_
                  refine AllReady.cons rfl (fun K hK => ?_) ?_
                  · go_simp
                    refine hK _ _ ?_
                    clear hK K
                    refine wpAny_ready (rs := [8]) (by kernel_rfl) (by simp) ?_
                    refine AllReady.cons rfl (fun K hK => ?_) ?_
                    · refine append_int_wp _ _ rfl (wC.heap.size + 3) vq _ rfl Hown.out (u : Int) _ rfl rfl Hlo.out HsD.out ?_
                      intro v' w' ho' hgr hfr hbb
                      obtain ⟨a', l', c', rfl⟩ := ints_any ho'
                      obtain ⟨⟨hcF, hcB⟩, hzF, hFin⟩ := HF3.out _ w' ho' hgr hfr hbb
                      have HFin := Lib.hid hFin
                      clear ho' hgr hfr hbb hFin
                      refine hK _ _ ?_
                      clear hK K
                      refine wpAny_take (i := 9) rfl (by kernel_rfl) (by kernel_rfl) (by kernel_rfl) (fun _ _ _ h => h) (Or.inl ⟨by rfl, fun w => by go_simp; try rfl⟩) ?_
                      refine wpAny_ready (rs := [10]) (by kernel_rfl) (by simp) ?_
                      refine AllReady.cons rfl (fun K hK => ?_) ?_
                      · go_simp
                        refine hK _ _ ?_
                        clear hK K
                        refine wpAny_done (by kernel_rfl) ?_ _
                        (gi_wp2; exact HFin.out)
                      exact AllReady.nil
                    exact AllReady.nil
                  exact AllReady.nil
                refine AllReady.cons rfl (fun K hK => ?_) ?_
                · go_simp
                  refine hK _ _ ?_
                  clear hK K
                  refine wpAny_ready (rs := [0, 8]) (by kernel_rfl) (by simp) ?_
                  refine AllReady.cons rfl (fun K hK => ?_) ?_
                  · go_simp
                    refine hK _ _ ?_
                    clear hK K
                    refine wpAny_ready (rs := [8]) (by kernel_rfl) (by simp) ?_
                    refine AllReady.cons rfl (fun K hK => ?_) ?_
                    · refine append_int_wp _ _ rfl (wC.heap.size + 3) vq _ rfl Hown.out (u : Int) _ rfl rfl Hlo.out HsD.out ?_
                      intro v' w' ho' hgr hfr hbb
                      obtain ⟨a', l', c', rfl⟩ := ints_any ho'
                      obtain ⟨⟨hcF, hcB⟩, hzF, hFin⟩ := HF3.out _ w' ho' hgr hfr hbb
                      have HFin := Lib.hid hFin
                      clear ho' hgr hfr hbb hFin
                      refine hK _ _ ?_
                      clear hK K
                      refine wpAny_take (i := 9) rfl (by kernel_rfl) (by kernel_rfl) (by kernel_rfl) (fun _ _ _ h => h) (Or.inl ⟨by rfl, fun w => by go_simp; try rfl⟩) ?_
                      refine wpAny_ready (rs := [10]) (by kernel_rfl) (by simp) ?_
                      refine AllReady.cons rfl (fun K hK => ?_) ?_
                      · go_simp
                        refine hK _ _ ?_
                        clear hK K
                        refine wpAny_done (by kernel_rfl) ?_ _
                        (gi_wp2; exact HFin.out)
                      exact AllReady.nil
                    exact AllReady.nil
                  refine AllReady.cons rfl (fun K hK => ?_) ?_
                  · refine append_int_wp _ _ rfl (wC.heap.size + 3) vq _ rfl Hown.out (u : Int) _ rfl rfl Hlo.out HsD.out ?_
                    intro v' w' ho' hgr hfr hbb
                    obtain ⟨a', l', c', rfl⟩ := ints_any ho'
                    obtain ⟨⟨hcF, hcB⟩, hzF, hFin⟩ := HF3.out _ w' ho' hgr hfr hbb
                    have HFin := Lib.hid hFin
                    clear ho' hgr hfr hbb hFin
                    refine hK _ _ ?_
                    clear hK K
                    refine wpAny_ready (rs := [0]) (by kernel_rfl) (by simp) ?_
                    refine AllReady.cons rfl (fun K hK => ?_) ?_
                    · go_simp
                      refine hK _ _ ?_
                      clear hK K
                      refine wpAny_take (i := 9) rfl (by kernel_rfl) (by kernel_rfl) (by kernel_rfl) (fun _ _ _ h => h) (Or.inl ⟨by rfl, fun w => by go_simp; try rfl⟩) ?_
                      refine wpAny_ready (rs := [10]) (by kernel_rfl) (by simp) ?_
                      refine AllReady.cons rfl (fun K hK => ?_) ?_
                      · go_simp
                        refine hK _ _ ?_
                        clear hK K
                        refine wpAny_done (by kernel_rfl) ?_ _
                        (gi_wp2; exact HFin.out)
                      exact AllReady.nil
                    exact AllReady.nil
                  exact AllReady.nil
                exact AllReady.nil
              exact AllReady.nil
            refine AllReady.cons rfl (fun K hK => ?_) ?_
            · go_simp
              refine hK _ _ ?_
              clear hK K
              refine wpAny_ready (rs := [0, 2]) (by kernel_rfl) (by simp) ?_
              refine AllReady.cons rfl (fun K hK => ?_) ?_
              · go_simp
                refine hK _ _ ?_
                clear hK K
                refine wpAny_ready (rs := [2]) (by kernel_rfl) (by simp) ?_
                refine AllReady.cons rfl (fun K hK => ?_) ?_
                · go_simp
                  refine hK _ _ ?_
                  clear hK K
                  refine wpAny_take (i := 4) rfl (by kernel_rfl) (by kernel_rfl) (by kernel_rfl) (fun _ _ _ h => h) (Or.inl ⟨by rfl, fun w => by go_simp; try rfl⟩) ?_
                  refine wpAny_ready (rs := [5]) (by kernel_rfl) (by simp) ?_
                  refine AllReady.cons rfl (fun K hK => ?_) ?_
                  · go_simp
                    refine hK _ _ ?_
                    clear hK K
                    refine wpAny_ready (rs := [8]) (by kernel_rfl) (by simp) ?_
                    refine AllReady.cons rfl (fun K hK => ?_) ?_
                    · refine append_int_wp _ _ rfl (wC.heap.size + 3) vq _ rfl Hown.out (u : Int) _ rfl rfl Hlo.out HsD.out ?_
                      intro v' w' ho' hgr hfr hbb
                      obtain ⟨a', l', c', rfl⟩ := ints_any ho'
                      obtain ⟨⟨hcF, hcB⟩, hzF, hFin⟩ := HF3.out _ w' ho' hgr hfr hbb
                      have HFin := Lib.hid hFin
                      clear ho' hgr hfr hbb hFin
                      refine hK _ _ ?_
                      clear hK K
                      refine wpAny_take (i := 9) rfl (by kernel_rfl) (by kernel_rfl) (by kernel_rfl) (fun _ _ _ h => h) (Or.inl ⟨by rfl, fun w => by go_simp; try rfl⟩) ?_
                      refine wpAny_ready (rs := [10]) (by kernel_rfl) (by simp) ?_
                      refine AllReady.cons rfl (fun K hK => ?_) ?_
                      · go_simp
                        refine hK _ _ ?_
                        clear hK K
                        refine wpAny_done (by kernel_rfl) ?_ _
                        (gi_wp2; exact HFin.out)
                      exact AllReady.nil
                    exact AllReady.nil
                  exact AllReady.nil
                exact AllReady.nil
              refine AllReady.cons rfl (fun K hK => ?_) ?_
              · go_simp
                refine hK _ _ ?_
                clear hK K
                refine wpAny_take (i := 4) rfl (by kernel_rfl) (by kernel_rfl) (by kernel_rfl) (fun _ _ _ h => h) (Or.inl ⟨by rfl, fun w => by go_simp; try rfl⟩) ?_
                refine wpAny_ready (rs := [0, 5]) (by kernel_rfl) (by simp) ?_
                refine AllReady.cons rfl (fun K hK => ?_) ?_
                · go_simp
                  refine hK _ _ ?_
                  clear hK K
                  refine wpAny_ready (rs := [5]) (by kernel_rfl) (by simp) ?_
                  refine AllReady.cons rfl (fun K hK => ?_) ?_
                  · go_simp
                    refine hK _ _ ?_
                    clear hK K
                    refine wpAny_ready (rs := [8]) (by kernel_rfl) (by simp) ?_
                    refine AllReady.cons rfl (fun K hK => ?_) ?_
                    · refine append_int_wp _ _ rfl (wC.heap.size + 3) vq _ rfl Hown.out (u : Int) _ rfl rfl Hlo.out HsD.out ?_
                      intro v' w' ho' hgr hfr hbb
                      obtain ⟨a', l', c', rfl⟩ := ints_any ho'
                      obtain ⟨⟨hcF, hcB⟩, hzF, hFin⟩ := HF3.out _ w' ho' hgr hfr hbb
                      have HFin := Lib.hid hFin
                      clear ho' hgr hfr hbb hFin
                      refine hK _ _ ?_
                      clear hK K
                      refine wpAny_take (i := 9) rfl (by kernel_rfl) (by kernel_rfl) (by kernel_rfl) (fun _ _ _ h => h) (Or.inl ⟨by rfl, fun w => by go_simp; try rfl⟩) ?_
                      refine wpAny_ready (rs := [10]) (by kernel_rfl) (by simp) ?_
                      refine AllReady.cons rfl (fun K hK => ?_) ?_
                      · go_simp
                        refine hK _ _ ?_
                        clear hK K
                        refine wpAny_done (by kernel_rfl) ?_ _
                        (gi_wp2; exact HFin.out)
                      exact AllReady.nil
                    exact AllReady.nil
                  exact AllReady.nil
                refine AllReady.cons rfl (fun K hK => ?_) ?_
                · go_simp
                  refine hK _ _ ?_
                  clear hK K
                  refine wpAny_ready (rs := [0, 8]) (by kernel_rfl) (by simp) ?_
                  refine AllReady.cons rfl (fun K hK => ?_) ?_
                  · go_simp
                    refine hK _ _ ?_
                    clear hK K
                    refine wpAny_ready (rs := [8]) (by kernel_rfl) (by simp) ?_
                    refine AllReady.cons rfl (fun K hK => ?_) ?_
                    · refine append_int_wp _ _ rfl (wC.heap.size + 3) vq _ rfl Hown.out (u : Int) _ rfl rfl Hlo.out HsD.out ?_
                      intro v' w' ho' hgr hfr hbb
                      obtain ⟨a', l', c', rfl⟩ := ints_any ho'
                      obtain ⟨⟨hcF, hcB⟩, hzF, hFin⟩ := HF3.out _ w' ho' hgr hfr hbb
                      have HFin := Lib.hid hFin
                      clear ho' hgr hfr hbb hFin
                      refine hK _ _ ?_
                      clear hK K
                      refine wpAny_take (i := 9) rfl (by kernel_rfl) (by kernel_rfl) (by kernel_rfl) (fun _ _ _ h => h) (Or.inl ⟨by rfl, fun w => by go_simp; try rfl⟩) ?_
                      refine wpAny_ready (rs := [10]) (by kernel_rfl) (by simp) ?_
                      refine AllReady.cons rfl (fun K hK => ?_) ?_
                      · go_simp
                        refine hK _ _ ?_
                        clear hK K
                        refine wpAny_done (by kernel_rfl) ?_ _
                        (gi_wp2; exact HFin.out)
                      exact AllReady.nil
                    exact AllReady.nil
                  refine AllReady.cons rfl (fun K hK => ?_) ?_
                  · refine append_int_wp _ _ rfl (wC.heap.size + 3) vq _ rfl Hown.out (u : Int) _ rfl rfl Hlo.out HsD.out ?_
                    intro v' w' ho' hgr hfr hbb
                    obtain ⟨a', l', c', rfl⟩ := ints_any ho'
                    obtain ⟨⟨hcF, hcB⟩, hzF, hFin⟩ := HF3.out _ w' ho' hgr hfr hbb
                    have HFin := Lib.hid hFin
                    clear ho' hgr hfr hbb hFin
                    refine hK _ _ ?_
                    clear hK K
                    refine wpAny_ready (rs := [0]) (by kernel_rfl) (by simp) ?_
                    refine AllReady.cons rfl (fun K hK => ?_) ?_
                    · go_simp
                      refine hK _ _ ?_
                      clear hK K
                      refine wpAny_take (i := 9) rfl (by kernel_rfl) (by kernel_rfl) (by kernel_rfl) (fun _ _ _ h => h) (Or.inl ⟨by rfl, fun w => by go_simp; try rfl⟩) ?_
                      refine wpAny_ready (rs := [10]) (by kernel_rfl) (by simp) ?_
                      refine AllReady.cons rfl (fun K hK => ?_) ?_
                      · go_simp
                        refine hK _ _ ?_
                        clear hK K
                        refine wpAny_done (by kernel_rfl) ?_ _
                        (gi_wp2; exact HFin.out)
                      exact AllReady.nil
                    exact AllReady.nil
                  exact AllReady.nil
                exact AllReady.nil
              exact AllReady.nil
            exact AllReady.nil
          case hdone =>
            rintro D xs W hD hxs ⟨vs, hB⟩ hK
            rw [hxs] at hB
            rw [Hs0.out] at hD
            clear hstops hE0 hI0 hbel hfit f0 f1 f2 f3 f4
            obtain ⟨rank, hrank⟩ : ∃ rank, rank = rankTo n l N := ⟨_, rfl⟩
            have hRK : RankOK l rank := fun j v hj => by
              have hjl := (List.getElem?_eq_some_iff.1 hj).1
              have := rankTo_ok Hok.out (by rw [← Hn.out]; exact hp0) N (by rw [← HN.out]; exact Nat.le_refl _) j v (by rw [HN.out]; exact hjl) hj
              rw [← Hn.out] at this
              rw [hrank]; exact this
            have hrl : rank.length = n := by rw [hrank, rankTo_length]
            have hTW : T1 w W n s vp regs words (.slice ac n cc) rank (minusTo n n) := by
              rw [hrank]
              exact HT.out.later hB.below
            have hTN : TN w wC W D n N s vp regs words (.slice ac n cc) gl cl l rank (minusTo n n) vs code :=
              ⟨hTW, ownsRow_below Hv.out hB.below (Nat.le_refl _), hB.lists, hB.box, hK, ⟨HT.out.size, hB.size, hD⟩⟩
            have hS0 : SInv code l rank ((minusTo n n).set 0 0) 0 0 := by
              have := SInv.start (rank := rank) Hok.out (by rw [← Hn.out]; exact hp0)
              rw [← Hn.out] at this
              rw [minusTo_all]
              exact this
            have hc0 := OwnInts.cell hTW.near (k := 0) (by rw [minusTo_length]; exact hp0)
            have hz0 := OwnInts.free hTW.near 0
            have hTN2 := hTN.set 0 0
            have HTN := Lib.hid hTN2
            have HS0 := Lib.hid hS0
            have HRK := Lib.hid hRK
            have Hrl := Lib.hid hrl
            generalize (minusTo n n).getD 0 0 = y at hc0
            obtain ⟨near0, hnear0⟩ : ∃ near0, near0 = (minusTo n n).set 0 0 := ⟨_, rfl⟩
            rw [← hnear0] at HTN HS0
            clear hrank hRK hrl hTW hTN hS0 hTN2 hB hK hxs hnear0 HT Hv
            have hl0 : 0 < code.length := by rw [← Hn.out]; exact hp0
            go_wp2_with fail
            go_step3
            go_wp2_with fail
            go_loopg [12] n (fun g _ wr => ∃ near k, k ≤ n ∧ g = n - k ∧ SInv code l rank near k 0 ∧ TN w wC wr D n N s vp regs words (.slice ac n cc) gl cl l rank near vs code)
            case atStart => exact ⟨near0, 0, Nat.zero_le _, rfl, HS0.out, HTN.out⟩
            case round =>
              obtain ⟨near, k, hk, hg, hS, hT⟩ := hrel
              have Hg := Lib.hid hg
              have HS := Lib.hid hS
              have HT := Lib.hid hT
              clear hg hS hT HS0 HTN
              by_cases hcl1 : cl = 1
              · obtain rfl : N = 1 := by omega
                have Hcl1 := Lib.hid hcl1
                subst hcl1
                go_wp2_with fail
                go_loopw [12, 82] (fun c i wx => c = .bool false ∧ i = .int .i64 0 ∧ wx = wr) (fun _ _ _ => 0)
                case atStart => exact ⟨rfl, rfl, rfl⟩
                case round =>
                  obtain ⟨rfl, rfl, rfl⟩ := hrel
                  have HTREE : IsTree code (near.set 0 (-1)) := HS.out.tree Hok.out hl0 (by rw [← HN.out]; exact Nat.le_refl _) (fun j v hj hjl => by
                    have := (List.getElem?_eq_some_iff.1 hjl).1
                    have := HN.out
                    omega)
                  have HTT := HT.out
                  have HSS := HS.out
                  have hres : IsTree code (near.set 0 (-1)) := HTREE
                  have hcz := OwnInts.cell HTT.t.near (k := 0) (by rw [HSS.ok.len, ← Hn.out]; exact hp0)
                  have hzz := OwnInts.free HTT.t.near 0
                  have hF := HTT.set 0 (-1)
                  have HFr := Lib.hid hF
                  have Hres := Lib.hid hres
                  generalize near.getD 0 0 = y9 at hcz
                  clear hres hF
                  go_wp2_with fail
                  try rw [Exit.noGoto_ret]
                  refine ⟨by simp, .inl ⟨_, _, rfl, run_takeDeferred HFr.out.d, ?_⟩⟩
                  refine ⟨_, results_tmp rfl _ _ _, _, Hres.out, _, rfl, ?_, ?_⟩
                  · exact ownsRow_putObj (ownsRow_mono HFr.out.t.near (by omega)) _ HFr.out.d rfl
                  · exact HFr.out.t.below.trans (belowK_b (w := w) (Nat.le_refl _) _ D _ _ (by have := HFr.out.size; omega) HFr.out.d rfl rfl)
              · go_wp2_with fail
                go_loopg [12, 82] (N - 1) (fun g cv iv wx => ∃ (i : Nat) (c : Bool) (nr : List Int), i ≤ N - 1 ∧ g = N - 1 - i ∧ iv = .int .i64 (i : Int) ∧ cv = .bool c ∧ SInv code l rank nr k i ∧ TN w wC wx D n N s vp regs words (.slice ac n cc) gl cl l rank nr vs code ∧
                  (c = false → nr = near ∧ ∀ (j v : Nat), 0 < j → j ≤ i → l[j]? = some v → ∃ fs, Preds code v fs ∧ Meet code nr fs (nr.getD v 0)) ∧ (n ≤ k → c = false))
                case atStart => exact ⟨0, false, near, Nat.zero_le _, rfl, rfl, rfl, HS.out, HT.out, fun _ => ⟨rfl, fun j v h1 h2 => by omega⟩, fun _ => rfl⟩
                case round =>
                  obtain ⟨i, c, nr, hi, hgi, rfl, rfl, hSi, hTi, hfix, hkc⟩ := hrel
                  have Hgi := Lib.hid hgi
                  have HSi := Lib.hid hSi
                  have HTi := Lib.hid hTi
                  have Hfix := Lib.hid hfix
                  have Hkc := Lib.hid hkc
                  clear hgi hSi hTi hfix hkc HS HT
                  by_cases hiN : i < N - 1
                  · have hil : i + 1 < l.length := by rw [← HN.out]; omega
                    have cv0 := OwnInts.cell HTi.out.l (k := i + 1) (by rw [ints_length]; exact hil)
                    rw [ints_getD] at cv0
                    obtain ⟨v, hv⟩ : ∃ v, v = l.getD (i + 1) 0 := ⟨_, rfl⟩
                    rw [← hv] at cv0
                    have hlv : l[i + 1]? = some v := by rw [hv, List.getD_eq_getElem?_getD, List.getElem?_eq_getElem hil]; rfl
                    have hvr : Rch code (-1) v := (Hok.out.mem v).1 (List.mem_of_getElem? hlv)
                    have hvn : v < n := by rw [Hn.out]; exact hvr.lt hl0
                    have cv : wr.cell? ⟨gl, 1 + i, none⟩ = some (.int .i64 (v : Int)) := by rw [Nat.add_comm]; exact cv0
                    have hbx := HTi.out.box
                    have cf := HTi.out.lists.cell hvn
                    obtain ⟨aP, cP, hvP⟩ := ints_form (HTi.out.lists.each v hvn)
                    have hgP0 : 0 < (preL (edgesL code) v).length → ∃ g, aP = some ⟨g, 0, none⟩ := fun h => by
                      rcases (HTi.out.lists.each v hvn).form with ⟨h2, h3⟩ | ⟨g, c', h2, _⟩
                      · rw [h3] at h; simp at h
                      · rw [hvP] at h2; cases h2; exact ⟨g, rfl⟩
                    obtain ⟨nP, hnP⟩ : ∃ nP, nP = (preL (edgesL code) v).length := ⟨_, rfl⟩
                    rw [← hnP] at hvP hgP0
                    have hnP2 : nP ≤ 2048 := by rw [hnP]; exact Nat.le_trans (preL_len _ _) (edgesL_le code)
                    have hgP := hgP0
                    rw [hvP] at cf
                    have HnP : Hid (nP = (predsL code v).length) := by show _ = _; rw [hnP, predsL_ints, List.length_map]
                    have HvP := Lib.hid hvP
                    have Hlv := Lib.hid hlv
                    have Hpr := Lib.hid (predsL_ok Hh.out v)
                    clear hv hlv hnP hvP hgP0 cv0 hil
                    go_wp2_with fail
                    go_loopg [15, 91] nP (fun g dv iv wy => ∃ (j : Nat) (d : Int), j ≤ nP ∧ g = nP - j ∧ iv = .int .i64 (j : Int) ∧ dv = .int .i64 d ∧ Meet code nr ((predsL code v).take j) d ∧ TN w wC wy D n N s vp regs words (.slice ac n cc) gl cl l rank nr vs code)
                    case atStart => exact ⟨0, -1, Nat.zero_le _, rfl, rfl, rfl, by rw [List.take_zero]; exact Meet.start _ _, HTi.out⟩
                    case round =>
                      obtain ⟨j, d, hj, hgj, rfl, rfl, hmj, hTj⟩ := hrel
                      have Hgj := Lib.hid hgj
                      have Hmj := Lib.hid hmj
                      have HTj := Lib.hid hTj
                      clear hgj hmj hTj HTi
                      by_cases hjp : j < nP
                      · obtain ⟨gP, rfl⟩ := hgP (by omega)
                        have hjl : j < (predsL code v).length := by rw [← HnP.out]; exact hjp
                        have hwn := HTj.out.lists.each v hvn
                        rw [HvP.out] at hwn
                        have cu := OwnInts.cell hwn (k := j) (by rw [predsL_ints, List.length_map]; exact hjl)
                        clear hwn
                        have hu0 := getD_mem (d := 0) hjl
                        have hug : (preL (edgesL code) v).getD j 0 = (((predsL code v).getD j 0 : Nat) : Int) := by rw [predsL_ints]; exact ints_getD _ _
                        rw [hug] at cu
                        have htk : (predsL code v).take (j + 1) = (predsL code v).take j ++ [(predsL code v).getD j 0] := by
                          rw [List.take_add_one, List.getElem?_eq_getElem hjl, List.getD_eq_getElem?_getD, List.getElem?_eq_getElem hjl]; rfl
                        have hur := ((Hpr.out _).1 hu0).1
                        obtain ⟨u, hu⟩ : ∃ u, u = (predsL code v).getD j 0 := ⟨_, rfl⟩
                        rw [← hu] at cu htk hur
                        have hunn : u < n := by rw [Hn.out]; exact hur.lt hl0
                        have cn := OwnInts.cell HTj.out.t.near (k := u) (by rw [HSi.out.ok.len, ← Hn.out]; exact hunn)
                        have Htk := Lib.hid htk
                        clear htk hu hug hu0
                        by_cases hun : 0 ≤ nr.getD u 0
                        · obtain ⟨pn, hpn⟩ := Int.eq_ofNat_of_zero_le hun
                          rw [hpn] at cn
                          have Hun := Lib.hid hun
                          have Hpn := Lib.hid hpn
                          by_cases hd0 : d < 0
                          · have hd1 : d = -1 := by
                              rcases Hmj.out with ⟨h, _⟩ | ⟨x, h, _⟩
                              · exact h
                              · omega
                            subst hd1
                            have HM6 : Hid (Meet code nr ((predsL code v).take (j + 1)) (u : Int)) := by
                              show Meet _ _ _ _
                              rw [Htk.out]
                              exact Hmj.out.first hur hun
                            clear hpn hun hd0
                            go_wp2_with fail
                            go_roundg (nP - (j + 1))
                            case measure => have := Hgj.out; omega
                            case rel => exact ⟨j + 1, _, hjp, rfl, by go_num, rfl, HM6.out, HTj.out⟩
                          · obtain ⟨x, rfl⟩ := Int.eq_ofNat_of_zero_le (show 0 ≤ d by omega)
                            obtain ⟨hxr, hxn⟩ : Rch code (-1) x ∧ 0 ≤ nr.getD x 0 := by
                              rcases Hmj.out with ⟨h, _⟩ | ⟨x', h, h2, h3, _⟩
                              · omega
                              · obtain rfl : x = x' := by omega
                                exact ⟨h2, h3⟩
                            clear hpn hd0
                            go_wp2_with fail
                            go_loopg [15, 17] (rank.getD x 0 + rank.getD u 0).toNat (fun g dv uv wy => ∃ dd uu : Nat, g = (rank.getD dd 0 + rank.getD uu 0).toNat ∧ dv = .int .i64 (dd : Int) ∧ uv = .int .i64 (uu : Int) ∧ Rch code (-1) dd ∧ 0 ≤ nr.getD dd 0 ∧ Rch code (-1) uu ∧ 0 ≤ nr.getD uu 0 ∧ Both nr x u dd uu ∧ TN w wC wy D n N s vp regs words (.slice ac n cc) gl cl l rank nr vs code)
                            case atStart => exact ⟨x, u, rfl, rfl, rfl, hxr, hxn, hur, hun, Both.start _ _ _, HTj.out⟩
                            case round =>
                              obtain ⟨dd, uu, hg6, rfl, rfl, hdr, hdn, hur2, hun2, hb6, hT6⟩ := hrel
                              have Hg6 := Lib.hid hg6
                              have Hb6 := Lib.hid hb6
                              have HT6 := Lib.hid hT6
                              have HP6 := Lib.hid (And.intro hdr (And.intro hdn (And.intro hur2 hun2)))
                              have hddn : dd < n := by rw [Hn.out]; exact hdr.lt hl0
                              have huun : uu < n := by rw [Hn.out]; exact hur2.lt hl0
                              clear hg6 hb6 hT6 hdr hdn hur2 hun2 HTj
                              by_cases hne : dd = uu
                              · subst hne
                                have hd1 : ((dd : Int) != (dd : Int)) = false := by simp
                                have HM6 : Hid (Meet code nr ((predsL code v).take (j + 1)) (dd : Int)) := by
                                  show Meet _ _ _ _
                                  rw [Htk.out]
                                  exact Hmj.out.more Hun.out HP6.out.1 HP6.out.2.1 Hb6.out
                                go_wp2_with fail
                                go_roundg (nP - (j + 1))
                                case measure => have := Hgj.out; omega
                                case rel => exact ⟨j + 1, _, by omega, rfl, by go_num, rfl, HM6.out, HT6.out⟩
                              · have hd1 : ((dd : Int) != (uu : Int)) = true := by rw [bne_iff_ne]; omega
                                obtain ⟨r1, e1, e1'⟩ := rank_of Hok.out HRK.out HP6.out.1
                                obtain ⟨r2, e2, e2'⟩ := rank_of Hok.out HRK.out HP6.out.2.2.1
                                have cd := OwnInts.cell HT6.out.t.rank (k := dd) (by rw [Hrl.out]; exact hddn)
                                have cu := OwnInts.cell HT6.out.t.rank (k := uu) (by rw [Hrl.out]; exact huun)
                                have nd := OwnInts.cell HT6.out.t.near (k := dd) (by rw [HSi.out.ok.len, ← Hn.out]; exact hddn)
                                have nu := OwnInts.cell HT6.out.t.near (k := uu) (by rw [HSi.out.ok.len, ← Hn.out]; exact huun)
                                rw [e1'] at cd
                                rw [e2'] at cu
                                by_cases hlt : r2 < r1
                                · obtain ⟨p, q1, q2, q3, q4, q5⟩ := Both.left Hok.out HRK.out HSi.out.ok HP6.out.1 HP6.out.2.1 HP6.out.2.2.1 HP6.out.2.2.2 Hb6.out (by rw [e1', e2']; omega)
                                  rw [q1] at nd
                                  have hd2 : decide (r2 < r1) = true := by simpa using hlt
                                  have hd3 : decide ((r2 : Int) < (r1 : Int)) = true := by simp; omega
                                  obtain ⟨r3, e3, e3'⟩ := rank_of Hok.out HRK.out q2
                                  have HR6 : Hid ((rank.getD p 0 + rank.getD uu 0).toNat < (rank.getD dd 0 + rank.getD uu 0).toNat) := by show _ < _; rw [e3', e1'] at q4; rw [e1', e2', e3']; omega
                                  have HQ6 := Lib.hid (And.intro q2 (And.intro q3 q5))
                                  clear e1 e1' e2 e2' q1 q2 q3 q4 q5 hne hlt e3 e3'
                                  go_wp2_with fail
                                  go_quiet (fail)
                                  go_wp2_with fail
                                  go_roundg ((rank.getD p 0 + rank.getD uu 0).toNat)
                                  case measure => rw [Hg6.out]; exact HR6.out
                                  case rel => exact ⟨p, uu, rfl, rfl, rfl, HQ6.out.1, HQ6.out.2.1, HP6.out.2.2.1, HP6.out.2.2.2, HQ6.out.2.2, HT6.out.draws _⟩
                                · obtain ⟨p, q1, q2, q3, q4, q5⟩ := Both.right Hok.out HRK.out HSi.out.ok HP6.out.1 HP6.out.2.1 HP6.out.2.2.1 HP6.out.2.2.2 Hb6.out hne (by rw [e1', e2']; omega)
                                  rw [q1] at nu
                                  have hd2 : decide (r2 < r1) = false := by simpa using hlt
                                  have hd3 : decide ((r2 : Int) < (r1 : Int)) = false := by simp; omega
                                  obtain ⟨r3, e3, e3'⟩ := rank_of Hok.out HRK.out q2
                                  have HR6 : Hid ((rank.getD dd 0 + rank.getD p 0).toNat < (rank.getD dd 0 + rank.getD uu 0).toNat) := by show _ < _; rw [e3', e2'] at q4; rw [e1', e2', e3']; omega
                                  have HQ6 := Lib.hid (And.intro q2 (And.intro q3 q5))
                                  clear e1 e1' e2 e2' q1 q2 q3 q4 q5 hne hlt e3 e3'
                                  go_wp2_with fail
                                  go_quiet (fail)
                                  go_wp2_with fail
                                  go_roundg ((rank.getD dd 0 + rank.getD p 0).toNat)
                                  case measure => rw [Hg6.out]; exact HR6.out
                                  case rel => exact ⟨dd, p, rfl, rfl, rfl, HP6.out.1, HP6.out.2.1, HQ6.out.1, HQ6.out.2.1, HQ6.out.2.2, HT6.out.draws _⟩
                        · have hd1 : nr.getD u 0 < 0 := by omega
                          have HM6 : Hid (Meet code nr ((predsL code v).take (j + 1)) d) := by
                            show Meet _ _ _ _
                            rw [Htk.out]
                            exact Hmj.out.skip hd1
                          generalize nr.getD u 0 = yn at cn hd1
                          clear hun
                          go_wp2_with fail
                          go_roundg (nP - (j + 1))
                          case measure => have := Hgj.out; omega
                          case rel => exact ⟨j + 1, _, hjp, rfl, by go_num, rfl, HM6.out, HTj.out⟩
                      · have hall : (predsL code v).take j = predsL code v := List.take_of_length_le (by rw [← HnP.out]; omega)
                        have HM : Hid (Meet code nr (predsL code v) d) := by show Meet _ _ _ _; rw [← hall]; exact Hmj.out
                        have HSn := Lib.hid (HSi.out.next Hok.out HRK.out Hlv.out Hpr.out HM.out)
                        have cn := OwnInts.cell HTj.out.t.near (k := v) (by rw [HSi.out.ok.len, ← Hn.out]; exact hvn)
                        have zn := OwnInts.free HTj.out.t.near v
                        have hstill : n ≤ k → nr.getD v 0 = d := fun h => HSi.out.still Hok.out HRK.out hl0 (by rw [← Hn.out]; exact h) Hlv.out Hpr.out HM.out
                        have HTn := Lib.hid (HTj.out.set v d)
                        have Hstill := Lib.hid hstill
                        obtain ⟨y, hy⟩ : ∃ y, y = nr.getD v 0 := ⟨_, rfl⟩
                        rw [← hy] at cn
                        have Hy := Lib.hid hy
                        clear hall hstill hy Hmj
                        by_cases hyd : y = d
                        · subst hyd
                          have hd1 : (y != y) = false := by simp
                          have hsame : nr.set v y = nr := by
                            refine getDi_ext (by simp) fun z hz => ?_
                            rw [getD_set_any]; split
                            · rename_i h; rw [h.1]; exact Hy.out
                            · rfl
                          have HSn2 : Hid (SInv code l rank nr k (i + 1)) := by have := HSn.out; rw [hsame] at this; exact this
                          have Hfix2 : Hid (c = false → nr = near ∧ ∀ (j v : Nat), 0 < j → j ≤ i + 1 → l[j]? = some v → ∃ fs, Preds code v fs ∧ Meet code nr fs (nr.getD v 0)) := fun hc => by
                            refine ⟨(Hfix.out hc).1, fun j' v' h1 h2 h3 => ?_⟩
                            by_cases hji : j' = i + 1
                            · subst hji
                              have : v = v' := by have := Hlv.out; rw [h3] at this; exact (Option.some.inj this).symm
                              subst this
                              exact ⟨_, Hpr.out, by rw [← Hy.out]; exact HM.out⟩
                            · exact (Hfix.out hc).2 j' v' h1 (by omega) h3
                          clear hsame
                          go_wp2_with fail
                          go_roundg (N - 1 - (i + 1))
                          case measure => have := Hgi.out; omega
                          case rel => exact ⟨i + 1, c, nr, hiN, rfl, by go_num, rfl, HSn2.out, HTj.out, Hfix2.out, Hkc.out⟩
                        · have hd1 : (y != d) = true := by rw [bne_iff_ne]; exact hyd
                          have Hyd := Lib.hid hyd
                          clear hyd
                          go_wp2_with fail
                          go_roundg (N - 1 - (i + 1))
                          case measure => have := Hgi.out; omega
                          case rel => exact ⟨i + 1, true, _, hiN, rfl, by go_num, rfl, HSn.out, HTn.out, (fun h => absurd h (by decide)), (fun h => absurd (Hy.out.trans (Hstill.out h)) Hyd.out)⟩
                  · obtain rfl : N - 1 = i := by omega
                    cases c with
                    | true =>
                      have hkn : k < n := Classical.byContradiction fun h => by have := Hkc.out (by omega); cases this
                      have HSt : Hid (SInv code l rank nr (k + 1) 0) := HSi.out.turn Hok.out (by rw [← HN.out]; omega)
                      go_wp2_with fail
                      go_roundg (n - (k + 1))
                      case measure => have := Hg.out; omega
                      case rel => exact ⟨nr, k + 1, hkn, rfl, HSt.out, HTi.out⟩
                    | false =>
                      have hfx := (Hfix.out rfl).2
                      have HTREE : IsTree code (nr.set 0 (-1)) := HSi.out.tree Hok.out hl0 (by rw [← HN.out]; omega) (fun j v hj hjl => hfx j v hj (by
                        have := (List.getElem?_eq_some_iff.1 hjl).1
                        have := HN.out
                        omega) hjl)
                      have HTT := HTi.out
                      have HSS := HSi.out
                      clear hfx
                      have hres : IsTree code (nr.set 0 (-1)) := HTREE
                      have hcz := OwnInts.cell HTT.t.near (k := 0) (by rw [HSS.ok.len, ← Hn.out]; exact hp0)
                      have hzz := OwnInts.free HTT.t.near 0
                      have hF := HTT.set 0 (-1)
                      have HFr := Lib.hid hF
                      have Hres := Lib.hid hres
                      generalize nr.getD 0 0 = y9 at hcz
                      clear hres hF
                      go_wp2_with fail
                      try rw [Exit.noGoto_ret]
                      refine ⟨by simp, .inl ⟨_, _, rfl, run_takeDeferred HFr.out.d, ?_⟩⟩
                      refine ⟨_, results_tmp rfl _ _ _, _, Hres.out, _, rfl, ?_, ?_⟩
                      · exact ownsRow_putObj (ownsRow_mono HFr.out.t.near (by omega)) _ HFr.out.d rfl
                      · exact HFr.out.t.below.trans (belowK_b (w := w) (Nat.le_refl _) _ D _ _ (by have := HFr.out.size; omega) HFr.out.d rfl rfl)
end Go.Proofs.YtapjdndcnenadaaDoor
