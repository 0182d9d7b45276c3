/- The reference's Lists: of each number those that lead there, or to which it leads. -/
import Derived.Test.YtapjdndcnenadaaDoorFindPlain
import Derived.Test.YtapjdndcnenadaaDoorREdges
import Derived.Deep.RegionHeld3
namespace Go.Proofs.YtapjdndcnenadaaDoor
open Go.RowKit

theorem FromIn.still {W w' : World} {B F n : Nat} {vs : List Value} {ls : Nat → List Int} (h : FromIn W B F n vs ls) {v : Nat} (hv : v < n) {o : Obj} (hgr : (W.alloc o).grownBy w' (vs.getD v nilV).ownBlock) :
    w'.cell? ⟨F, v, none⟩ = some (vs.getD v nilV) ∧ w'.frozen? ⟨F, v, none⟩ = false := by
  have hl := h.len
  have hrow : w'.ownsRow F 38 1 (.slice (some ⟨F, 0, none⟩) n n) n vs := (World.ownsRow.alloc h.row _).kept hgr (.inr (fun e => by
    have h1 := (World.ownsRow.lt (h.each v hv) F e.symm).1
    have h2 := h.low
    omega))
  refine ⟨?_, World.ownsRow.frozenAt hrow v⟩
  rw [World.ownsRow.cellAt hrow v (by omega)]
  simp [List.getD, hl, hv]
/-- Lists of the call's own: n of them, in block F. -/
def RetLists (n : Nat) (f : Int → List Int) (w : World) (e : Ending) (w' : World) : Prop :=
  ∃ F vs, e = .returned (.slice (some ⟨F, 0, none⟩) n n) ∧ FromIn w' (F + 1) F n vs (fun x => f (x : Nat)) ∧ w.heap.size ≤ F ∧ Below w.heap.size w w'
theorem take_snoc' {es : List Edge} {k : Nat} {e : Edge} (h : es[k]? = some e) : es.take (k + 1) = es.take k ++ [e] := by rw [List.take_add_one, h]; rfl
theorem EdgesIn.at' {w : World} {a : Option Addr} {n cap : Nat} {l : List Edge} (h : EdgesIn w (.slice a n cap) l) {k : Nat} {u v : Int} (hk : l[k]? = some (u, v)) :
    ∃ b off, a = some ⟨b, off, none⟩ ∧ b < w.heap.size ∧ w.cell? ⟨b, off + k * 2, none⟩ = some (.int .i64 u) ∧ w.cell? ⟨b, off + k * 2 + 1, none⟩ = some (.int .i64 v) := by
  obtain ⟨b, off, h1, h2, h3, h4⟩ := EdgesIn.cell h (k := k) (List.getElem?_eq_some_iff.1 hk).1
  rw [List.getD_eq_getElem?_getD, hk] at h3 h4
  exact ⟨b, off, h1, h2, h3, h4⟩

set_option maxRecDepth 100000 in
set_option maxHeartbeats 4000000 in
theorem rlists_any (n : Nat) (v : Value) (es : List Edge) (tw : Bool) (w : World) (hn : n ≤ 1000000) (hes : es.length ≤ 1000000) (hv : EdgesIn w v es) (hr : ∀ e ∈ es, 0 ≤ e.1 ∧ e.1 < n ∧ 0 ≤ e.2 ∧ e.2 < n) :
    Calls Tryd.prog 18 #[.int .i64 n, v, .bool tw] w (RetLists n (if tw = true then toI es else outI es) w) := by
  have hvf := hv
  obtain ⟨-, ae, ce, rfl, -, -, -, hae⟩ := hvf
  obtain ⟨nE, hnE⟩ : ∃ nE, nE = es.length := ⟨_, rfl⟩
  rw [← hnE] at hes hae ⊢
  obtain ⟨F, hF⟩ : ∃ F, F = w.heap.size := ⟨_, rfl⟩
  have Hv := Lib.hid hv
  rw [← hnE] at Hv
  have HnE := Lib.hid hnE
  have Hr := Lib.hid hr
  have HF := Lib.hid hF
  have hmr : (Instr.makeSlice 50 (.int .i64 (n : Int)) (.int .i64 (n : Int))).run Tryd.prog w = .ok (.slice (some ⟨F, 0, none⟩) n n) (w.alloc (.cells (nilRows n) 38)) := by rw [hF]; exact make_rows_run n (by omega) w
  obtain ⟨lf, hlf⟩ : ∃ lf : List Edge → Int → List Int, lf = fun es => if tw = true then toI es else outI es := ⟨_, rfl⟩
  have hlf0 : (if tw = true then toI es else outI es) = lf es := by rw [hlf]
  rw [hlf0]
  have Hlf := Lib.hid hlf
  have h0 : FromIn (w.alloc (.cells (nilRows n) 38)) (F + 1) F n (List.replicate n nilV) (fun _ => []) := by
    rw [hF]; exact FromIn.start w n (by omega) (by omega)
  have H0 := Lib.hid h0
  clear hv hnE hr h0 hlf0 hlf hF
  go_enter Tryd.func18, Tryd.ntmps18
  go_wp2_with fail
  clear hmr
  go_loopg [8] nE (fun g iv wx => ∃ (e : Nat) (vs : List Value), g = nE - e ∧ iv = .int .i64 (e : Int) ∧ e ≤ nE ∧ FromIn wx (F + 1) F n vs (fun x => lf (es.take e) (x : Nat)) ∧ Below F w wx)
  case atStart => exact ⟨0, _, rfl, rfl, Nat.zero_le _, by (have h := H0.out; rw [Hlf.out]; cases tw <;> simpa [toI, outI] using h), by rw [HF.out]; exact (Below.refl _ _).alloc (Nat.le_refl _) _⟩
  case round =>
    obtain ⟨e, vs, hg, rfl, he, hR, hb⟩ := hrel
    have Hg := Lib.hid hg
    have HR := Lib.hid hR
    have Hbw := Lib.hid hb
    clear hg hR hb
    by_cases hen : e < nE
    · obtain ⟨⟨eu, ev⟩, hee⟩ : ∃ x, es[e]? = some x := ⟨_, List.getElem?_eq_getElem (by rw [← HnE.out]; exact hen)⟩
      obtain ⟨r1, r2, r3, r4⟩ := Hr.out _ (List.mem_of_getElem? hee)
      simp only at r1 r2 r3 r4
      obtain ⟨u, rfl⟩ : ∃ a : Nat, eu = a := ⟨eu.toNat, by omega⟩
      obtain ⟨x, rfl⟩ : ∃ a : Nat, ev = a := ⟨ev.toNat, by omega⟩
      have hun : u < n := by omega
      have hxn : x < n := by omega
      obtain ⟨ge, oe, hae', hge, hc1, hc2⟩ := Hv.out.at' hee
      subst hae'
      have hFs : F + 1 ≤ wr.heap.size := by have := (World.ownsRow.lt HR.out.row F rfl).2; omega
      have hgF : ge < F := by rw [HF.out]; exact hge
      have htk := take_snoc' hee
      have hln : (toI (es.take e) x).length ≤ nE ∧ (outI (es.take e) u).length ≤ nE := ⟨Nat.le_trans (toI_len _ _) (by rw [List.length_take]; omega), Nat.le_trans (outI_len _ _) (by rw [List.length_take]; omega)⟩
      clear hae hee r1 r2 r3 r4
      cases tw
      · obtain rfl : lf = outI := by have := Hlf.out; simpa using this
        obtain ⟨vq, hvq⟩ : ∃ vq, vq = vs.getD u nilV := ⟨_, rfl⟩
        have hcu := HR.out.cell hun
        rw [← hvq] at hcu
        obtain ⟨aq, lq, cq, hvq2⟩ := ints_any (HR.out.each u hun)
        rw [← hvq] at hvq2
        go_upto_region 7 with (fail)
        refine wp_region_held (S := Below F wr.drew) rfl ?_
        change wpAnyH _ _ _ _ (Below F wr.drew) _ _ _ wr.drew
        obtain ⟨W0, hW0⟩ : ∃ W0, W0 = wr.drew := ⟨_, rfl⟩
        rw [← hW0]
        have hb0 : Below wr.heap.size wr W0 := by rw [hW0]; exact (Below.refl _ _).drew
        have hs0 : W0.heap.size = wr.heap.size := by rw [hW0]; rfl
        have hR0 := HR.out.later hb0
        have hcu0 : W0.cell? ⟨F, u, none⟩ = some vq := (hb0.cell (p := ⟨F, u, none⟩) (by show F < _; omega)).trans hcu
        have hcuA : (W0.alloc (.cells #[.int .i64 x] 3)).cell? ⟨F, u, none⟩ = some vq := by rw [World.cell?_alloc_past _ _ _ (by show F < _; omega)]; exact hcu0
        have HX : Hid (OwnInts W0 (F + 1) vq (outI (es.take e) u) ∧ (outI (es.take e) u).length ≤ 1000000000000 ∧ F + 1 ≤ W0.heap.size) := ⟨by rw [hvq]; exact hR0.each u hun, by omega, by omega⟩
        have HC : Hid (∀ W, Below F W0 W → W.cell? ⟨ge, oe + e * 2, none⟩ = some (.int .i64 u) ∧ W.cell? ⟨ge, oe + e * 2 + 1, none⟩ = some (.int .i64 x)) := fun W hb =>
          have h1 := (Hbw.out.trans (hb0.mono (by omega))).trans hb
          ⟨(h1.cell (p := ⟨ge, oe + e * 2, none⟩) hgF).trans hc1, (h1.cell (p := ⟨ge, oe + e * 2 + 1, none⟩) hgF).trans hc2⟩
        have HG : Hid (∀ v' w', OwnInts w' (F + 1) v' (outI (es.take e) u ++ [(x : Int)]) → (W0.alloc (.cells #[.int .i64 x] 3)).grownBy w' vq.ownBlock → Fresh (W0.alloc (.cells #[.int .i64 x] 3)) vq v' → (∀ C w0, Below C w0 W0 → C ≤ F + 1 → Below C w0 w') →
            w'.cell? ⟨F, u, none⟩ = some vq ∧ w'.frozen? ⟨F, u, none⟩ = false ∧
            FromIn (w'.setCell ⟨F, u, none⟩ v') (F + 1) F n (vs.set u v') (fun y => outI (es.take (e + 1)) (y : Nat)) ∧ Below F W0 w' ∧ Below F W0 (w'.setCell ⟨F, u, none⟩ v')) := fun v' w' ho hgr hfr hbb => by
          rw [hvq] at hgr hfr ⊢
          obtain ⟨s1, s2⟩ := hR0.still hun hgr
          have hb1 := hbb F W0 (Below.refl _ _) (by omega)
          refine ⟨s1, s2, ?_, hb1, hb1.setCell (Nat.le_refl _) _⟩
          have h2 := hR0.grow hun (u := (x : Int)) ho hgr hfr
          have e3 : (fun y : Nat => if y = u then outI (es.take e) u ++ [(x : Int)] else outI (es.take e) y) = fun y : Nat => outI (es.take (e + 1)) y := by
            funext y
            rw [htk, outI_snoc]
            by_cases hy : y = u
            · subst hy; simp
            · rw [if_neg hy, if_neg (by simp; omega)]
          rw [← e3]
          exact h2
        have HbW := Lib.hid (Hbw.out.trans (hb0.mono (show F ≤ wr.heap.size by omega)))
        have Hb : Hid (Below F W0 W0) := Below.refl _ _
        have HbA : Hid (Below F W0 (W0.alloc (.cells #[.int .i64 x] 3))) := (Below.refl _ _).alloc (by omega) _
        clear hcu hvq hW0 hb0 hs0 hR0 hc1 hc2 htk hln hFs
        subst hvq2
        obtain ⟨yb, hyb⟩ : ∃ yb, yb = (x : Int) := ⟨_, rfl⟩
        have Hyb := Lib.hid hyb
        rw [← hyb] at HG HbA HC hcuA
        clear hyb
        refine wpAnyH_take (i := 0) (by simp only [List.getElem?_toArray, List.getElem?_cons_zero]; rfl) (by kernel_rfl) (by kernel_rfl) (by kernel_rfl) (by intro _ _ _ h; exact h) (Or.inl ⟨by first | rfl | go_simp, fun w hw => by (obtain ⟨z0, z1⟩ := HC.out w hw; go_simp; try rfl)⟩) Hb.out ?_
        refine wpAnyH_take (i := 1) (by simp only [List.getElem?_toArray, List.getElem?_cons_succ, List.getElem?_cons_zero]; rfl) (by kernel_rfl) (by kernel_rfl) (by kernel_rfl) (by intro _ _ _ h; exact h) (Or.inl ⟨by first | rfl | go_simp, fun w hw => by (obtain ⟨z0, z1⟩ := HC.out w hw; go_simp; try rfl)⟩) Hb.out ?_
        try go_frame
        refine wpAnyH_take (i := 2) (by simp only [List.getElem?_toArray, List.getElem?_cons_succ, List.getElem?_cons_zero]; rfl) (by kernel_rfl) (by kernel_rfl) (by kernel_rfl) (by intro _ _ _ h; exact h) (Or.inl ⟨by first | rfl | go_simp, fun w hw => by (obtain ⟨z0, z1⟩ := HC.out w hw; go_simp; try rfl)⟩) Hb.out ?_
        refine wpAnyH_take (i := 3) (by simp only [List.getElem?_toArray, List.getElem?_cons_succ, List.getElem?_cons_zero]; rfl) (by kernel_rfl) (by kernel_rfl) (by kernel_rfl) (by intro _ _ _ h; exact h) (Or.inl ⟨by first | rfl | go_simp, fun w hw => by (obtain ⟨z0, z1⟩ := HC.out w hw; go_simp; try rfl)⟩) Hb.out ?_
        try go_frame
        refine wpAnyH_take (i := 4) (by simp only [List.getElem?_toArray, List.getElem?_cons_succ, List.getElem?_cons_zero]; rfl) (by kernel_rfl) (by kernel_rfl) (by kernel_rfl) (by intro _ _ _ h; exact h) (Or.inl ⟨by first | rfl | go_simp, fun w hw => by (obtain ⟨z0, z1⟩ := HC.out w hw; go_simp; try rfl)⟩) Hb.out ?_
        refine wpAnyH_take (i := 5) (by simp only [List.getElem?_toArray, List.getElem?_cons_succ, List.getElem?_cons_zero]; rfl) (by kernel_rfl) (by kernel_rfl) (by kernel_rfl) (by intro _ _ _ h; exact h) (Or.inl ⟨by first | rfl | go_simp, fun w hw => by (obtain ⟨z0, z1⟩ := HC.out w hw; go_simp; try rfl)⟩) Hb.out ?_
        try go_frame
        refine wpAnyH_take (i := 6) (by simp only [List.getElem?_toArray, List.getElem?_cons_succ, List.getElem?_cons_zero]; rfl) (by kernel_rfl) (by kernel_rfl) (by kernel_rfl) (by intro _ _ _ h; exact h) (Or.inl ⟨by first | rfl | go_simp, fun w hw => by (obtain ⟨z0, z1⟩ := HC.out w hw; go_simp; try rfl)⟩) Hb.out ?_
        refine wpAnyH_take (i := 7) (by simp only [List.getElem?_toArray, List.getElem?_cons_succ, List.getElem?_cons_zero]; rfl) (by kernel_rfl) (by kernel_rfl) (by kernel_rfl) (by intro _ _ _ h; exact h) (Or.inl ⟨by first | rfl | go_simp, fun w hw => by (obtain ⟨z0, z1⟩ := HC.out w hw; go_simp; try rfl)⟩) Hb.out ?_
        try go_frame
        refine wpAnyH_take (i := 8) (by simp only [List.getElem?_toArray, List.getElem?_cons_succ, List.getElem?_cons_zero]; rfl) (by kernel_rfl) (by kernel_rfl) (by kernel_rfl) (by intro _ _ _ h; exact h) (Or.inl ⟨by first | rfl | go_simp, fun w hw => by (obtain ⟨z0, z1⟩ := HC.out w hw; go_simp; try rfl)⟩) Hb.out ?_
        refine wpAnyH_take (i := 9) (by simp only [List.getElem?_toArray, List.getElem?_cons_succ, List.getElem?_cons_zero]; rfl) (by kernel_rfl) (by kernel_rfl) (by kernel_rfl) (by intro _ _ _ h; exact h) (Or.inl ⟨by first | rfl | go_simp, fun w hw => by (obtain ⟨z0, z1⟩ := HC.out w hw; go_simp; try rfl)⟩) Hb.out ?_
        try go_frame
        refine wpAnyH_take (i := 10) (by simp only [List.getElem?_toArray, List.getElem?_cons_succ, List.getElem?_cons_zero]; rfl) (by kernel_rfl) (by kernel_rfl) (by kernel_rfl) (by intro _ _ _ h; exact h) (Or.inl ⟨by first | rfl | go_simp, fun w hw => by (obtain ⟨z0, z1⟩ := HC.out w hw; go_simp; try rfl)⟩) Hb.out ?_
        refine wpAnyH_take (i := 11) (by simp only [List.getElem?_toArray, List.getElem?_cons_succ, List.getElem?_cons_zero]; rfl) (by kernel_rfl) (by kernel_rfl) (by kernel_rfl) (by intro _ _ _ h; exact h) (Or.inl ⟨by first | rfl | go_simp, fun w hw => by (obtain ⟨z0, z1⟩ := HC.out w hw; go_simp; try rfl)⟩) Hb.out ?_
        try go_frame
        refine wpAnyH_take (i := 12) (by simp only [List.getElem?_toArray, List.getElem?_cons_succ, List.getElem?_cons_zero]; rfl) (by kernel_rfl) (by kernel_rfl) (by kernel_rfl) (by intro _ _ _ h; exact h) (Or.inl ⟨by first | rfl | go_simp, fun w hw => by (obtain ⟨z0, z1⟩ := HC.out w hw; go_simp; try rfl)⟩) Hb.out ?_
        refine wpAnyH_take (i := 14) (by simp only [List.getElem?_toArray, List.getElem?_cons_succ, List.getElem?_cons_zero]; rfl) (by kernel_rfl) (by kernel_rfl) (by kernel_rfl) (by intro _ _ _ h; exact h) (Or.inl ⟨by first | rfl | go_simp, fun w hw => by (obtain ⟨z0, z1⟩ := HC.out w hw; go_simp; try rfl)⟩) Hb.out ?_
        try go_frame
        refine wpAnyH_take (i := 15) (by simp only [List.getElem?_toArray, List.getElem?_cons_succ, List.getElem?_cons_zero]; rfl) (by kernel_rfl) (by kernel_rfl) (by kernel_rfl) (by intro _ _ _ h; exact h) (Or.inl ⟨by first | rfl | go_simp, fun w hw => by (obtain ⟨z0, z1⟩ := HC.out w hw; go_simp; try rfl)⟩) Hb.out ?_
        refine wpAnyH_take (i := 16) (by simp only [List.getElem?_toArray, List.getElem?_cons_succ, List.getElem?_cons_zero]; rfl) (by kernel_rfl) (by kernel_rfl) (by kernel_rfl) (by intro _ _ _ h; exact h) (Or.inl ⟨by first | rfl | go_simp, fun w hw => by (obtain ⟨z0, z1⟩ := HC.out w hw; go_simp; try rfl)⟩) Hb.out ?_
        try go_frame
        refine wpAnyH_take (i := 17) (by simp only [List.getElem?_toArray, List.getElem?_cons_succ, List.getElem?_cons_zero]; rfl) (by kernel_rfl) (by kernel_rfl) (by kernel_rfl) (by intro _ _ _ h; exact h) (Or.inl ⟨by first | rfl | go_simp, fun w hw => by (obtain ⟨z0, z1⟩ := HC.out w hw; go_simp; try rfl)⟩) Hb.out ?_
        refine wpAnyH_take (i := 18) (by simp only [List.getElem?_toArray, List.getElem?_cons_succ, List.getElem?_cons_zero]; rfl) (by kernel_rfl) (by kernel_rfl) (by kernel_rfl) (by intro _ _ _ h; exact h) (Or.inl ⟨by first | rfl | go_simp, fun w hw => by (obtain ⟨z0, z1⟩ := HC.out w hw; go_simp; try rfl)⟩) Hb.out ?_
        try go_frame
        try go_frame
        refine wpAnyH_ready (rs := [13, 19]) (by kernel_rfl) (by simp) ?_
        refine AllReadyH.cons rfl (fun K hK => ?_) ?_
        · go_simp
          refine hK.out _ _ Hb.out (fun _ => ?_)
          clear hK K
          try go_frame
          refine wpAnyH_ready (rs := [19]) (by kernel_rfl) (by simp) ?_
          refine AllReadyH.cons rfl (fun K hK => ?_) AllReadyH.nil
          go_simp
          refine hK.out _ _ HbA.out (fun _ => ?_)
          clear hK K
          try go_frame
          refine wpAnyH_ready (rs := [20]) (by kernel_rfl) (by simp) ?_
          refine AllReadyH.cons rfl (fun K hK => ?_) AllReadyH.nil
          refine append_int_wp _ _ rfl (F + 1) (.slice aq lq cq) _ rfl HX.out.1 yb _ rfl rfl HX.out.2.1 HX.out.2.2 ?_
          intro v' w1 ho hgr hfr hbb
          obtain ⟨a', l', c', rfl⟩ := ints_any ho
          obtain ⟨s1, s2, s3, s4⟩ := HG.out _ w1 ho hgr hfr hbb
          have HG2 := Lib.hid (And.intro s3 (And.intro s4.1 s4.2))
          clear ho hgr hfr hbb
          refine hK.out _ _ s4.1 (fun _ => ?_)
          clear hK K s3 s4
          try go_frame
          have Hb2 : Hid (Below F W0 w1) := HG2.out.2.1
          refine wpAnyH_take (i := 21) (by simp only [List.getElem?_toArray, List.getElem?_cons_succ, List.getElem?_cons_zero]; rfl) (by kernel_rfl) (by kernel_rfl) (by kernel_rfl) (by intro _ _ _ h; exact h) (Or.inl ⟨by first | rfl | go_simp, fun w hw => by (obtain ⟨z0, z1⟩ := HC.out w hw; go_simp; try rfl)⟩) Hb2.out ?_
          try go_frame
          refine wpAnyH_ready (rs := [22]) (by kernel_rfl) (by simp) ?_
          refine AllReadyH.cons rfl (fun K hK => ?_) AllReadyH.nil
          go_simp
          refine hK.out _ _ HG2.out.2.2 (fun _ => ?_)
          clear hK K s1 s2
          try go_frame
          refine wpAnyH_done (by kernel_rfl) ?_ _
          (go_wp2_with fail; go_roundg (nE - (e + 1)); (case measure => have := Hg.out; omega); (case rel => exact ⟨e + 1, _, rfl, by go_num, hen, HG2.out.1, HbW.out.trans HG2.out.2.2⟩))
        · refine AllReadyH.cons rfl (fun K hK => ?_) AllReadyH.nil
          go_simp
          refine hK.out _ _ HbA.out (fun _ => ?_)
          clear hK K
          try go_frame
          refine wpAnyH_ready (rs := [13]) (by kernel_rfl) (by simp) ?_
          refine AllReadyH.cons rfl (fun K hK => ?_) AllReadyH.nil
          go_simp
          refine hK.out _ _ HbA.out (fun _ => ?_)
          clear hK K
          try go_frame
          refine wpAnyH_ready (rs := [20]) (by kernel_rfl) (by simp) ?_
          refine AllReadyH.cons rfl (fun K hK => ?_) AllReadyH.nil
          refine append_int_wp _ _ rfl (F + 1) (.slice aq lq cq) _ rfl HX.out.1 yb _ rfl rfl HX.out.2.1 HX.out.2.2 ?_
          intro v' w1 ho hgr hfr hbb
          obtain ⟨a', l', c', rfl⟩ := ints_any ho
          obtain ⟨s1, s2, s3, s4⟩ := HG.out _ w1 ho hgr hfr hbb
          have HG2 := Lib.hid (And.intro s3 (And.intro s4.1 s4.2))
          clear ho hgr hfr hbb
          refine hK.out _ _ s4.1 (fun _ => ?_)
          clear hK K s3 s4
          try go_frame
          have Hb2 : Hid (Below F W0 w1) := HG2.out.2.1
          refine wpAnyH_take (i := 21) (by simp only [List.getElem?_toArray, List.getElem?_cons_succ, List.getElem?_cons_zero]; rfl) (by kernel_rfl) (by kernel_rfl) (by kernel_rfl) (by intro _ _ _ h; exact h) (Or.inl ⟨by first | rfl | go_simp, fun w hw => by (obtain ⟨z0, z1⟩ := HC.out w hw; go_simp; try rfl)⟩) Hb2.out ?_
          try go_frame
          refine wpAnyH_ready (rs := [22]) (by kernel_rfl) (by simp) ?_
          refine AllReadyH.cons rfl (fun K hK => ?_) AllReadyH.nil
          go_simp
          refine hK.out _ _ HG2.out.2.2 (fun _ => ?_)
          clear hK K s1 s2
          try go_frame
          refine wpAnyH_done (by kernel_rfl) ?_ _
          (go_wp2_with fail; go_roundg (nE - (e + 1)); (case measure => have := Hg.out; omega); (case rel => exact ⟨e + 1, _, rfl, by go_num, hen, HG2.out.1, HbW.out.trans HG2.out.2.2⟩))
      · obtain rfl : lf = toI := by have := Hlf.out; simpa using this
        obtain ⟨vq, hvq⟩ : ∃ vq, vq = vs.getD x nilV := ⟨_, rfl⟩
        have hcu := HR.out.cell hxn
        rw [← hvq] at hcu
        obtain ⟨aq, lq, cq, hvq2⟩ := ints_any (HR.out.each x hxn)
        rw [← hvq] at hvq2
        go_upto_region 6 with (fail)
        refine wp_region_held (S := Below F wr.drew) rfl ?_
        change wpAnyH _ _ _ _ (Below F wr.drew) _ _ _ wr.drew
        obtain ⟨W0, hW0⟩ : ∃ W0, W0 = wr.drew := ⟨_, rfl⟩
        rw [← hW0]
        have hb0 : Below wr.heap.size wr W0 := by rw [hW0]; exact (Below.refl _ _).drew
        have hs0 : W0.heap.size = wr.heap.size := by rw [hW0]; rfl
        have hR0 := HR.out.later hb0
        have hcu0 : W0.cell? ⟨F, x, none⟩ = some vq := (hb0.cell (p := ⟨F, x, none⟩) (by show F < _; omega)).trans hcu
        have hcuA : (W0.alloc (.cells #[.int .i64 u] 3)).cell? ⟨F, x, none⟩ = some vq := by rw [World.cell?_alloc_past _ _ _ (by show F < _; omega)]; exact hcu0
        have HX : Hid (OwnInts W0 (F + 1) vq (toI (es.take e) x) ∧ (toI (es.take e) x).length ≤ 1000000000000 ∧ F + 1 ≤ W0.heap.size) := ⟨by rw [hvq]; exact hR0.each x hxn, by omega, by omega⟩
        have HC : Hid (∀ W, Below F W0 W → W.cell? ⟨ge, oe + e * 2, none⟩ = some (.int .i64 u) ∧ W.cell? ⟨ge, oe + e * 2 + 1, none⟩ = some (.int .i64 x)) := fun W hb =>
          have h1 := (Hbw.out.trans (hb0.mono (by omega))).trans hb
          ⟨(h1.cell (p := ⟨ge, oe + e * 2, none⟩) hgF).trans hc1, (h1.cell (p := ⟨ge, oe + e * 2 + 1, none⟩) hgF).trans hc2⟩
        have HG : Hid (∀ v' w', OwnInts w' (F + 1) v' (toI (es.take e) x ++ [(u : Int)]) → (W0.alloc (.cells #[.int .i64 u] 3)).grownBy w' vq.ownBlock → Fresh (W0.alloc (.cells #[.int .i64 u] 3)) vq v' → (∀ C w0, Below C w0 W0 → C ≤ F + 1 → Below C w0 w') →
            w'.cell? ⟨F, x, none⟩ = some vq ∧ w'.frozen? ⟨F, x, none⟩ = false ∧
            FromIn (w'.setCell ⟨F, x, none⟩ v') (F + 1) F n (vs.set x v') (fun y => toI (es.take (e + 1)) (y : Nat)) ∧ Below F W0 w' ∧ Below F W0 (w'.setCell ⟨F, x, none⟩ v')) := fun v' w' ho hgr hfr hbb => by
          rw [hvq] at hgr hfr ⊢
          obtain ⟨s1, s2⟩ := hR0.still hxn hgr
          have hb1 := hbb F W0 (Below.refl _ _) (by omega)
          refine ⟨s1, s2, ?_, hb1, hb1.setCell (Nat.le_refl _) _⟩
          have h2 := hR0.grow hxn (u := (u : Int)) ho hgr hfr
          have e3 : (fun y : Nat => if y = x then toI (es.take e) x ++ [(u : Int)] else toI (es.take e) y) = fun y : Nat => toI (es.take (e + 1)) y := by
            funext y
            rw [htk, toI_snoc]
            by_cases hy : y = x
            · subst hy; simp
            · rw [if_neg hy, if_neg (by simp; omega)]
          rw [← e3]
          exact h2
        have HbW := Lib.hid (Hbw.out.trans (hb0.mono (show F ≤ wr.heap.size by omega)))
        have Hb : Hid (Below F W0 W0) := Below.refl _ _
        have HbA : Hid (Below F W0 (W0.alloc (.cells #[.int .i64 u] 3))) := (Below.refl _ _).alloc (by omega) _
        clear hcu hvq hW0 hb0 hs0 hR0 hc1 hc2 htk hln hFs
        subst hvq2
        obtain ⟨yb, hyb⟩ : ∃ yb, yb = (u : Int) := ⟨_, rfl⟩
        have Hyb := Lib.hid hyb
        rw [← hyb] at HG HbA HC hcuA
        clear hyb
        refine wpAnyH_take (i := 0) (by simp only [List.getElem?_toArray, List.getElem?_cons_zero]; rfl) (by kernel_rfl) (by kernel_rfl) (by kernel_rfl) (by intro _ _ _ h; exact h) (Or.inl ⟨by first | rfl | go_simp, fun w hw => by (obtain ⟨z0, z1⟩ := HC.out w hw; go_simp; try rfl)⟩) Hb.out ?_
        refine wpAnyH_take (i := 1) (by simp only [List.getElem?_toArray, List.getElem?_cons_succ, List.getElem?_cons_zero]; rfl) (by kernel_rfl) (by kernel_rfl) (by kernel_rfl) (by intro _ _ _ h; exact h) (Or.inl ⟨by first | rfl | go_simp, fun w hw => by (obtain ⟨z0, z1⟩ := HC.out w hw; go_simp; try rfl)⟩) Hb.out ?_
        try go_frame
        refine wpAnyH_take (i := 2) (by simp only [List.getElem?_toArray, List.getElem?_cons_succ, List.getElem?_cons_zero]; rfl) (by kernel_rfl) (by kernel_rfl) (by kernel_rfl) (by intro _ _ _ h; exact h) (Or.inl ⟨by first | rfl | go_simp, fun w hw => by (obtain ⟨z0, z1⟩ := HC.out w hw; go_simp; try rfl)⟩) Hb.out ?_
        refine wpAnyH_take (i := 3) (by simp only [List.getElem?_toArray, List.getElem?_cons_succ, List.getElem?_cons_zero]; rfl) (by kernel_rfl) (by kernel_rfl) (by kernel_rfl) (by intro _ _ _ h; exact h) (Or.inl ⟨by first | rfl | go_simp, fun w hw => by (obtain ⟨z0, z1⟩ := HC.out w hw; go_simp; try rfl)⟩) Hb.out ?_
        try go_frame
        refine wpAnyH_take (i := 4) (by simp only [List.getElem?_toArray, List.getElem?_cons_succ, List.getElem?_cons_zero]; rfl) (by kernel_rfl) (by kernel_rfl) (by kernel_rfl) (by intro _ _ _ h; exact h) (Or.inl ⟨by first | rfl | go_simp, fun w hw => by (obtain ⟨z0, z1⟩ := HC.out w hw; go_simp; try rfl)⟩) Hb.out ?_
        refine wpAnyH_take (i := 5) (by simp only [List.getElem?_toArray, List.getElem?_cons_succ, List.getElem?_cons_zero]; rfl) (by kernel_rfl) (by kernel_rfl) (by kernel_rfl) (by intro _ _ _ h; exact h) (Or.inl ⟨by first | rfl | go_simp, fun w hw => by (obtain ⟨z0, z1⟩ := HC.out w hw; go_simp; try rfl)⟩) Hb.out ?_
        try go_frame
        refine wpAnyH_take (i := 6) (by simp only [List.getElem?_toArray, List.getElem?_cons_succ, List.getElem?_cons_zero]; rfl) (by kernel_rfl) (by kernel_rfl) (by kernel_rfl) (by intro _ _ _ h; exact h) (Or.inl ⟨by first | rfl | go_simp, fun w hw => by (obtain ⟨z0, z1⟩ := HC.out w hw; go_simp; try rfl)⟩) Hb.out ?_
        refine wpAnyH_take (i := 7) (by simp only [List.getElem?_toArray, List.getElem?_cons_succ, List.getElem?_cons_zero]; rfl) (by kernel_rfl) (by kernel_rfl) (by kernel_rfl) (by intro _ _ _ h; exact h) (Or.inl ⟨by first | rfl | go_simp, fun w hw => by (obtain ⟨z0, z1⟩ := HC.out w hw; go_simp; try rfl)⟩) Hb.out ?_
        try go_frame
        refine wpAnyH_take (i := 8) (by simp only [List.getElem?_toArray, List.getElem?_cons_succ, List.getElem?_cons_zero]; rfl) (by kernel_rfl) (by kernel_rfl) (by kernel_rfl) (by intro _ _ _ h; exact h) (Or.inl ⟨by first | rfl | go_simp, fun w hw => by (obtain ⟨z0, z1⟩ := HC.out w hw; go_simp; try rfl)⟩) Hb.out ?_
        refine wpAnyH_take (i := 9) (by simp only [List.getElem?_toArray, List.getElem?_cons_succ, List.getElem?_cons_zero]; rfl) (by kernel_rfl) (by kernel_rfl) (by kernel_rfl) (by intro _ _ _ h; exact h) (Or.inl ⟨by first | rfl | go_simp, fun w hw => by (obtain ⟨z0, z1⟩ := HC.out w hw; go_simp; try rfl)⟩) Hb.out ?_
        try go_frame
        refine wpAnyH_take (i := 10) (by simp only [List.getElem?_toArray, List.getElem?_cons_succ, List.getElem?_cons_zero]; rfl) (by kernel_rfl) (by kernel_rfl) (by kernel_rfl) (by intro _ _ _ h; exact h) (Or.inl ⟨by first | rfl | go_simp, fun w hw => by (obtain ⟨z0, z1⟩ := HC.out w hw; go_simp; try rfl)⟩) Hb.out ?_
        refine wpAnyH_take (i := 11) (by simp only [List.getElem?_toArray, List.getElem?_cons_succ, List.getElem?_cons_zero]; rfl) (by kernel_rfl) (by kernel_rfl) (by kernel_rfl) (by intro _ _ _ h; exact h) (Or.inl ⟨by first | rfl | go_simp, fun w hw => by (obtain ⟨z0, z1⟩ := HC.out w hw; go_simp; try rfl)⟩) Hb.out ?_
        try go_frame
        refine wpAnyH_take (i := 12) (by simp only [List.getElem?_toArray, List.getElem?_cons_succ, List.getElem?_cons_zero]; rfl) (by kernel_rfl) (by kernel_rfl) (by kernel_rfl) (by intro _ _ _ h; exact h) (Or.inl ⟨by first | rfl | go_simp, fun w hw => by (obtain ⟨z0, z1⟩ := HC.out w hw; go_simp; try rfl)⟩) Hb.out ?_
        refine wpAnyH_take (i := 14) (by simp only [List.getElem?_toArray, List.getElem?_cons_succ, List.getElem?_cons_zero]; rfl) (by kernel_rfl) (by kernel_rfl) (by kernel_rfl) (by intro _ _ _ h; exact h) (Or.inl ⟨by first | rfl | go_simp, fun w hw => by (obtain ⟨z0, z1⟩ := HC.out w hw; go_simp; try rfl)⟩) Hb.out ?_
        try go_frame
        refine wpAnyH_take (i := 15) (by simp only [List.getElem?_toArray, List.getElem?_cons_succ, List.getElem?_cons_zero]; rfl) (by kernel_rfl) (by kernel_rfl) (by kernel_rfl) (by intro _ _ _ h; exact h) (Or.inl ⟨by first | rfl | go_simp, fun w hw => by (obtain ⟨z0, z1⟩ := HC.out w hw; go_simp; try rfl)⟩) Hb.out ?_
        refine wpAnyH_take (i := 16) (by simp only [List.getElem?_toArray, List.getElem?_cons_succ, List.getElem?_cons_zero]; rfl) (by kernel_rfl) (by kernel_rfl) (by kernel_rfl) (by intro _ _ _ h; exact h) (Or.inl ⟨by first | rfl | go_simp, fun w hw => by (obtain ⟨z0, z1⟩ := HC.out w hw; go_simp; try rfl)⟩) Hb.out ?_
        try go_frame
        refine wpAnyH_take (i := 17) (by simp only [List.getElem?_toArray, List.getElem?_cons_succ, List.getElem?_cons_zero]; rfl) (by kernel_rfl) (by kernel_rfl) (by kernel_rfl) (by intro _ _ _ h; exact h) (Or.inl ⟨by first | rfl | go_simp, fun w hw => by (obtain ⟨z0, z1⟩ := HC.out w hw; go_simp; try rfl)⟩) Hb.out ?_
        refine wpAnyH_take (i := 18) (by simp only [List.getElem?_toArray, List.getElem?_cons_succ, List.getElem?_cons_zero]; rfl) (by kernel_rfl) (by kernel_rfl) (by kernel_rfl) (by intro _ _ _ h; exact h) (Or.inl ⟨by first | rfl | go_simp, fun w hw => by (obtain ⟨z0, z1⟩ := HC.out w hw; go_simp; try rfl)⟩) Hb.out ?_
        try go_frame
        try go_frame
        refine wpAnyH_ready (rs := [13, 19]) (by kernel_rfl) (by simp) ?_
        refine AllReadyH.cons rfl (fun K hK => ?_) ?_
        · go_simp
          refine hK.out _ _ Hb.out (fun _ => ?_)
          clear hK K
          try go_frame
          refine wpAnyH_ready (rs := [19]) (by kernel_rfl) (by simp) ?_
          refine AllReadyH.cons rfl (fun K hK => ?_) AllReadyH.nil
          go_simp
          refine hK.out _ _ HbA.out (fun _ => ?_)
          clear hK K
          try go_frame
          refine wpAnyH_ready (rs := [20]) (by kernel_rfl) (by simp) ?_
          refine AllReadyH.cons rfl (fun K hK => ?_) AllReadyH.nil
          refine append_int_wp _ _ rfl (F + 1) (.slice aq lq cq) _ rfl HX.out.1 yb _ rfl rfl HX.out.2.1 HX.out.2.2 ?_
          intro v' w1 ho hgr hfr hbb
          obtain ⟨a', l', c', rfl⟩ := ints_any ho
          obtain ⟨s1, s2, s3, s4⟩ := HG.out _ w1 ho hgr hfr hbb
          have HG2 := Lib.hid (And.intro s3 (And.intro s4.1 s4.2))
          clear ho hgr hfr hbb
          refine hK.out _ _ s4.1 (fun _ => ?_)
          clear hK K s3 s4
          try go_frame
          have Hb2 : Hid (Below F W0 w1) := HG2.out.2.1
          refine wpAnyH_take (i := 21) (by simp only [List.getElem?_toArray, List.getElem?_cons_succ, List.getElem?_cons_zero]; rfl) (by kernel_rfl) (by kernel_rfl) (by kernel_rfl) (by intro _ _ _ h; exact h) (Or.inl ⟨by first | rfl | go_simp, fun w hw => by (obtain ⟨z0, z1⟩ := HC.out w hw; go_simp; try rfl)⟩) Hb2.out ?_
          try go_frame
          refine wpAnyH_ready (rs := [22]) (by kernel_rfl) (by simp) ?_
          refine AllReadyH.cons rfl (fun K hK => ?_) AllReadyH.nil
          go_simp
          refine hK.out _ _ HG2.out.2.2 (fun _ => ?_)
          clear hK K s1 s2
          try go_frame
          refine wpAnyH_done (by kernel_rfl) ?_ _
          (go_wp2_with fail; go_roundg (nE - (e + 1)); (case measure => have := Hg.out; omega); (case rel => exact ⟨e + 1, _, rfl, by go_num, hen, HG2.out.1, HbW.out.trans HG2.out.2.2⟩))
        · refine AllReadyH.cons rfl (fun K hK => ?_) AllReadyH.nil
          go_simp
          refine hK.out _ _ HbA.out (fun _ => ?_)
          clear hK K
          try go_frame
          refine wpAnyH_ready (rs := [13]) (by kernel_rfl) (by simp) ?_
          refine AllReadyH.cons rfl (fun K hK => ?_) AllReadyH.nil
          go_simp
          refine hK.out _ _ HbA.out (fun _ => ?_)
          clear hK K
          try go_frame
          refine wpAnyH_ready (rs := [20]) (by kernel_rfl) (by simp) ?_
          refine AllReadyH.cons rfl (fun K hK => ?_) AllReadyH.nil
          refine append_int_wp _ _ rfl (F + 1) (.slice aq lq cq) _ rfl HX.out.1 yb _ rfl rfl HX.out.2.1 HX.out.2.2 ?_
          intro v' w1 ho hgr hfr hbb
          obtain ⟨a', l', c', rfl⟩ := ints_any ho
          obtain ⟨s1, s2, s3, s4⟩ := HG.out _ w1 ho hgr hfr hbb
          have HG2 := Lib.hid (And.intro s3 (And.intro s4.1 s4.2))
          clear ho hgr hfr hbb
          refine hK.out _ _ s4.1 (fun _ => ?_)
          clear hK K s3 s4
          try go_frame
          have Hb2 : Hid (Below F W0 w1) := HG2.out.2.1
          refine wpAnyH_take (i := 21) (by simp only [List.getElem?_toArray, List.getElem?_cons_succ, List.getElem?_cons_zero]; rfl) (by kernel_rfl) (by kernel_rfl) (by kernel_rfl) (by intro _ _ _ h; exact h) (Or.inl ⟨by first | rfl | go_simp, fun w hw => by (obtain ⟨z0, z1⟩ := HC.out w hw; go_simp; try rfl)⟩) Hb2.out ?_
          try go_frame
          refine wpAnyH_ready (rs := [22]) (by kernel_rfl) (by simp) ?_
          refine AllReadyH.cons rfl (fun K hK => ?_) AllReadyH.nil
          go_simp
          refine hK.out _ _ HG2.out.2.2 (fun _ => ?_)
          clear hK K s1 s2
          try go_frame
          refine wpAnyH_done (by kernel_rfl) ?_ _
          (go_wp2_with fail; go_roundg (nE - (e + 1)); (case measure => have := Hg.out; omega); (case rel => exact ⟨e + 1, _, rfl, by go_num, hen, HG2.out.1, HbW.out.trans HG2.out.2.2⟩))
    · obtain rfl : nE = e := by omega
      have hfin : es.take nE = es := by rw [HnE.out, List.take_length]
      have HFin : Hid (RetLists n (lf es) w (.returned (.slice (some ⟨F, 0, none⟩) n n)) wr) :=
        ⟨F, vs, rfl, by have := HR.out; rw [hfin] at this; exact this, by rw [HF.out]; exact Nat.le_refl _, by rw [← HF.out]; exact Hbw.out⟩
      clear hfin
      go_wp2_with fail
      go_ret
      exact HFin.out
end Go.Proofs.YtapjdndcnenadaaDoor
