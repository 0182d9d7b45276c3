/- The statement LoopsCount's walk: of every function it answers true and leaves what was there. -/
import Derived.Test.YtapjdndcnenadaaDoorCountPlain
import Derived.Test.YtapjdndcnenadaaDoorFixed14
import Derived.BigQuiet
namespace Go.Proofs.YtapjdndcnenadaaDoor
open Go.RowKit

theorem find_told' {code : List Ins} {l : List LP} {E a : Int} (h : FindIs code l E a) : (E ≠ 0 ∧ l = []) ∨ (E = 0 ∧ code.length ≤ 1024 ∧ ToldL code l ∧ (∀ v, ¬ Way (aheadE code) v v) ∧ ∀ h ∈ headsL code, (countsOf code h (memL code h) (toI (backsE code) h)).1 = 0) := by
  rcases h with ⟨_, h, e, _⟩ | ⟨_, _, h, e⟩ | ⟨_, _, h, _, _, _, _, _, e⟩ | ⟨h1, h2, h3, h4, h5, h6, h7⟩
  · exact .inl ⟨by omega, h⟩
  · exact .inl ⟨by omega, h⟩
  · exact .inl ⟨e, h⟩
  · exact .inr ⟨h4, h1, ⟨h6, h7⟩, h2, h3⟩
/-- A list of the call's own in the place of another one. -/
theorem FromIn.lay {W : World} {B F n : Nat} {vs : List Value} {ls : Nat → List Int} (h : FromIn W B F n vs ls) {v : Nat} (hv : v < n) {v' : Value} {l' : List Int} (ho : OwnInts W B v' l')
    (hap : ∀ x, x < n → ∀ k, (vs.getD x nilV).ownBlock = some k → v'.ownBlock ≠ some k) : FromIn (W.setCell ⟨F, v, none⟩ v') B F n (vs.set v v') (fun x => if x = v then l' else ls x) := by
  have hl := h.len
  have hlow := h.low
  have hobv : ∀ x, x < n → ∀ k, (vs.getD x nilV).ownBlock = some k → B ≤ k := fun x hx k hk => (World.ownsRow.lt (h.each x hx) k hk).1
  have hob : ∀ k, v'.ownBlock = some k → B ≤ k := fun k hk => (World.ownsRow.lt ho k hk).1
  refine ⟨(World.ownsRow.stored h.row v v').1, fun x hx => ?_, fun x y hx hy hxy k hk h5 => ?_, h.low⟩
  · rw [getD_set_val _ _ _ _ (by omega)]
    by_cases hxv : x = v
    · subst hxv
      simp only [if_true]
      exact ownsRow_setCell_other ho (fun e => by have : B ≤ F := hob F e; omega) _
    · simp only [if_neg hxv]
      exact ownsRow_setCell_other (h.each x hx) (fun e => by have : B ≤ F := hobv x hx F e; omega) _
  · rw [getD_set_val _ _ _ _ (by omega)] at hk h5
    by_cases hxv : x = v
    · subst hxv
      rw [if_pos rfl] at hk
      rw [if_neg (fun e => hxy e.symm)] at h5
      exact hap y hy k h5 hk
    · rw [if_neg hxv] at hk
      by_cases hyv : y = v
      · subst hyv
        rw [if_pos rfl] at h5
        exact hap x hx k hk h5
      · rw [if_neg hyv] at h5
        exact h.apart x y hx hy hxy k hk h5

/-- The edges that are no back edges, and how many of them lead where, as far as the first e say. -/
structure EP (code : List Ins) (wE wx : World) (I n e : Nat) (kv : Value) : Prop where
  into : OwnInts wx I (rowV I n) (rowF n fun v => (cntTo (aheadIn code ((edgesL code).take e)) [] v : Int))
  kept : OwnEdges wx (I + 1) kv (aheadIn code ((edgesL code).take e))
  below : Below I wE wx
theorem EP.start (code : List Ins) (wE : World) (n : Nat) (hn : n ≤ 100000) :
    EP code wE ((wE.alloc (.cells (zeroInts n) 3)).alloc (.cells #[] 49)) wE.heap.size n 0 (.slice (some ⟨wE.heap.size + 1, 0, none⟩) 0 0) := by
  refine ⟨?_, ?_, ((Below.refl _ _).alloc (Nat.le_refl _) _).alloc (by (try simp only [World.size_alloc]); (try simp only [size_set]); omega) _⟩
  · have h := owns_zeroInts wE (B := wE.heap.size) n (Nat.le_refl _) (by omega)
    rw [rowF_zero] at h
    have h2 : OwnInts ((wE.alloc (.cells (zeroInts n) 3)).alloc (.cells #[] 49)) wE.heap.size (rowV wE.heap.size n) (rowF n fun v => (cntTo [] [] v : Int)) := World.ownsRow.alloc h _
    simpa [aheadIn] using h2
  · have h := owns_empty (wE.alloc (.cells (zeroInts n) 3)) (B := wE.heap.size + 1) 49 2 (by (try simp only [World.size_alloc]); (try simp only [size_set]); omega)
    rw [World.size_alloc] at h
    simpa [OwnEdges, aheadIn, edgeVs] using h

theorem ownsRow_lowB {w w' : World} {B C : Nat} {e : TypeId} {size : Nat} {v : Value} {n : Nat} {xs : List Value} (h : w.ownsRow B e size v n xs) (hb : Below C w w') (hk : ∀ k, v.ownBlock = some k → k < C) : w'.ownsRow B e size v n xs := by
  obtain ⟨h1, h2⟩ := h
  refine ⟨h1, ?_⟩
  rcases h2 with h2 | ⟨g, cap, cur, hv, hg, hh, r⟩
  · exact Or.inl h2
  · exact Or.inr ⟨g, cap, cur, hv, hg, by rw [hb.block g (hk g (by rw [hv]; rfl))]; exact hh, r⟩
theorem EP.lt {code : List Ins} {wE wx : World} {I n e : Nat} {kv : Value} (h : EP code wE wx I n e kv) : I < wx.heap.size := (World.ownsRow.lt h.into I rfl).2
theorem EP.draws {code : List Ins} {wE wx : World} {I n e : Nat} {kv : Value} (h : EP code wE wx I n e kv) (q : Nat) : EP code wE (wx.drewN q) I n e kv :=
  ⟨ownsRow_below h.into (below_draws _ _) (Nat.le_refl _), ownsRow_below h.kept (below_draws _ _) (Nat.le_refl _), below_drewN h.below q⟩
theorem EP.skip {code : List Ins} {wE wx : World} {I n e : Nat} {kv : Value} (h : EP code wE wx I n e kv) {x : Edge} (he : (edgesL code)[e]? = some x) (hb : isBack code x = true) : EP code wE wx I n (e + 1) kv := by
  have e1 : aheadIn code ((edgesL code).take (e + 1)) = aheadIn code ((edgesL code).take e) := by rw [take_snoc' he, aheadIn_snoc, if_pos hb]
  obtain ⟨h1, h2, h3⟩ := h
  exact ⟨by rw [e1]; exact h1, by rw [e1]; exact h2, h3⟩
theorem EP.next {code : List Ins} {wE wx w' : World} {I n e : Nat} {kv v' : Value} (h : EP code wE wx I n e kv) {u v : Nat} (he : (edgesL code)[e]? = some ((u : Int), (v : Int))) (hb : isBack code ((u : Int), (v : Int)) = false)
    (ho : OwnEdges w' (I + 1) v' (aheadIn code ((edgesL code).take e) ++ [((u : Int), (v : Int))])) (hb1 : Below (I + 1) wx w') {c : Int} (hc : c = cntTo (aheadIn code ((edgesL code).take e)) [] v) :
    EP code wE (w'.setCell ⟨I, v, none⟩ (.int .i64 (c + 1))) I n (e + 1) v' := by
  have e1 : aheadIn code ((edgesL code).take (e + 1)) = aheadIn code ((edgesL code).take e) ++ [((u : Int), (v : Int))] := by rw [take_snoc' he, aheadIn_snoc, if_neg (by simp [hb])]
  have hI : OwnInts w' I (rowV I n) (rowF n fun v => (cntTo (aheadIn code ((edgesL code).take e)) [] v : Int)) := ownsRow_lowB h.into hb1 (fun k hk => by simp [Value.ownBlock] at hk; omega)
  have h1 := OwnInts.store hI v (c + 1)
  rw [rowF_set] at h1
  refine ⟨?_, ?_, ?_⟩
  · rw [e1, rowF_congr (G := fun y => if y = (v : Int) then c + 1 else (cntTo (aheadIn code ((edgesL code).take e)) [] y : Int))]
    · exact h1
    · intro y
      rw [cntTo_one]
      by_cases hy : y = (v : Int)
      · subst hy; simp [hc]
      · simp [hy]
  · rw [e1]
    exact ownsRow_setCell_below (a := ⟨I, v, none⟩) ho (Nat.lt_succ_self _) _
  · exact (h.below.trans ((hb1.mono (Nat.le_succ _)).mono (Nat.le_refl _))).setCell (Nat.le_refl _) _

/-- Where each leads, in memory: rows that are none of the counts'. -/
def WaysAt (es : List Edge) (I n F2 T : Nat) (W : World) : Prop := ∀ x : Nat, x < n → ∃ a c, W.cell? ⟨F2, x, none⟩ = some (.slice a (outI es x).length c) ∧ ∀ (j : Nat) (y : Int), (outI es x)[j]? = some y → ∃ g, a = some ⟨g, 0, none⟩ ∧ g ≠ I ∧ g < T ∧ W.cell? ⟨g, j, none⟩ = some (.int .i64 y)
theorem WaysAt.start {es : List Edge} {I n F2 T : Nat} {vs : List Value} {W : World} (h : FromIn W (F2 + 1) F2 n vs (fun x => outI es (x : Nat))) (hI : I < F2) (hT : T = W.heap.size) : WaysAt es I n F2 T W := by
  intro x hx
  have hc := h.cell hx
  have he := h.each x hx
  obtain ⟨a, c, hv⟩ := ints_form he
  rw [hv] at hc he
  refine ⟨a, c, hc, fun j y hj => ?_⟩
  rcases OwnInts.form he with ⟨_, h2⟩ | ⟨g, cap, e, h3, h4, _⟩
  · rw [h2] at hj; cases hj
  · cases e
    have hjl : j < (outI es (x : Int)).length := (List.getElem?_eq_some_iff.1 hj).1
    refine ⟨g, rfl, by omega, by omega, ?_⟩
    rw [OwnInts.cell he hjl, List.getD_eq_getElem?_getD, hj]
    rfl
theorem WaysAt.store {es : List Edge} {I n F2 T : Nat} {W : World} (h : WaysAt es I n F2 T W) (hI : I < F2) (x : Nat) (u : Value) : WaysAt es I n F2 T (W.setCell ⟨I, x, none⟩ u) := by
  intro y hy
  obtain ⟨a, c, h1, h2⟩ := h y hy
  refine ⟨a, c, ?_, fun j z hj => ?_⟩
  · rw [World.cell?_setCell_other _ _ _ _ (fun e => by have := congrArg Addr.block e; simp at this; omega)]; exact h1
  · obtain ⟨g, e, h3, h4, h5⟩ := h2 j z hj
    exact ⟨g, e, h3, h4, by rw [World.cell?_setCell_other _ _ _ _ (fun e => by have := congrArg Addr.block e; simp at this; omega)]; exact h5⟩
theorem WaysAt.later {es : List Edge} {I n F2 T : Nat} {W W' : World} (h : WaysAt es I n F2 T W) (hF : F2 < T) (hb : Below T W W') : WaysAt es I n F2 T W' := by
  intro y hy
  obtain ⟨a, c, h1, h2⟩ := h y hy
  refine ⟨a, c, (hb.cell (p := ⟨F2, y, none⟩) hF).trans h1, fun j z hj => ?_⟩
  obtain ⟨g, e, h3, h4, h5⟩ := h2 j z hj
  exact ⟨g, e, h3, h4, (hb.cell (p := ⟨g, j, none⟩) h4).trans h5⟩
/-- What is left to be taken, in memory. -/
structure TK (es : List Edge) (w wx : World) (I n F2 T : Nat) (F : Int → Int) (tv : Value) (l : List Int) : Prop where
  into : OwnInts wx I (rowV I n) (rowF n F)
  todo : OwnInts wx T tv l
  ways : WaysAt es I n F2 T wx
  below : Below w.heap.size w wx
  le : T ≤ wx.heap.size
theorem TK.store {es : List Edge} {w wx : World} {I n F2 T : Nat} {F : Int → Int} {tv : Value} {l : List Int} (h : TK es w wx I n F2 T F tv l) (hw : w.heap.size ≤ I) (hI : I < F2) (hF : F2 < T) (x : Nat) (c : Int) :
    TK es w (wx.setCell ⟨I, x, none⟩ (.int .i64 c)) I n F2 T (fun v => if v = (x : Int) then c else F v) tv l := by
  refine ⟨?_, ?_, h.ways.store hI x _, h.below.setCell hw _, by rw [size_set]; exact h.le⟩
  · rw [← rowF_set]; exact OwnInts.store h.into x c
  · exact ownsRow_setCell_below (a := ⟨I, x, none⟩) h.todo (by show I < T; omega) _
theorem TK.push {es : List Edge} {w wx w' : World} {I n F2 T : Nat} {F : Int → Int} {tv v' : Value} {l l' : List Int} (h : TK es w wx I n F2 T F tv l) (hw : w.heap.size ≤ I) (hI : I < F2) (hF : F2 < T) (ho : OwnInts w' T v' l') (hb : Below T wx w') :
    TK es w w' I n F2 T F v' l' :=
  ⟨ownsRow_lowB h.into hb (fun k hk => by simp [Value.ownBlock] at hk; omega), ho, h.ways.later hF hb, h.below.trans (hb.mono (by omega)), Nat.le_trans h.le hb.size⟩

set_option maxRecDepth 100000 in
set_option maxHeartbeats 8000000 in
theorem lawCount_any (s : ByteArray) (vp : Value) (regs words : Int) (vc : Value) (code : List Ins) (w : World) (hlen : code.length * 40 ≤ 140737488351232) (hc : CodeIn w vc code) (hw : WritesIn w) :
    Calls Tryd.prog 6 #[fnV s vp regs words vc] w (Gives (.bool true) w) := by
  have Hlen := Lib.hid hlen
  have Hc := Lib.hid hc
  have Hw := Lib.hid hw
  clear hlen hc hw
  go_enter Tryd.func6, Tryd.ntmps6
  go_wp2_with fail
  refine (fixed14_any _ (Hw.out.next ((Below.refl _ _).alloc (Nat.le_refl _) _))).mono ?_
  rintro e wA ⟨rfl, hbA⟩
  have hbwA : Below w.heap.size w wA := ((Below.refl _ _).alloc (Nat.le_refl _) _).trans (hbA.mono (by simp))
  have HfA : Hid (FnAt wA w.heap.size s vp regs words vc) := (FnAt.box w s vp regs words vc _).later hbA (by simp)
  have hsA : w.heap.size < wA.heap.size := by have := hbA.size; simp at this; omega
  have HbwA := Lib.hid hbwA
  clear hbA hbwA
  obtain ⟨f0, f1, f2, f3, f4⟩ := HfA.out
  go_wp2_with fail
  refine (find_any s vp regs words vc code _ Hlen.out (SliceIn.later Hc.out HbwA.out) (Hw.out.next HbwA.out)).mono ?_
  rintro e w2 ⟨v, l, E, at', rfl, hl, hf, hb2⟩
  have hX : NX w2 w.heap.size s vp regs words vc code v l := ⟨by have := hb2.size; omega, HfA.out.later hb2 hsA, hl.toIn, SliceIn.later Hc.out (HbwA.out.trans (hb2.mono (by omega)))⟩
  have Hb2 : Hid (Below w.heap.size w w2) := HbwA.out.trans (hb2.mono (by omega))
  have hform := hl.toIn.form
  have HX := Lib.hid hX
  have Hf := Lib.hid (find_told' hf)
  clear hl hf hb2 hX f0 f1 f2 f3 f4 HfA hsA HbwA
  obtain ⟨av, cv, rfl, hlm, hav⟩ := hform
  obtain ⟨m, hm⟩ : ∃ m, m = l.length := ⟨_, rfl⟩
  rw [← hm] at hlm hav HX ⊢
  have Hm := Lib.hid hm
  clear hm
  by_cases hE : E = 0
  · obtain ⟨-, hn1024, htold, hno, hcn⟩ : E = 0 ∧ code.length ≤ 1024 ∧ ToldL code l ∧ (∀ v, ¬ Way (aheadE code) v v) ∧ ∀ h ∈ headsL code, (countsOf code h (memL code h) (toI (backsE code) h)).1 = 0 := by
      rcases Hf.out with ⟨h, _⟩ | h
      · exact absurd hE h
      · exact h
    subst hE
    have HT := Lib.hid htold
    have Hno := Lib.hid hno
    have Hcn := Lib.hid hcn
    have hm1024 : m ≤ 1024 := by
      rw [Hm.out, htold.len]
      exact Nat.le_trans (headsL_len code) hn1024
    clear htold Hf hlm hno hcn
    obtain ⟨n, hn⟩ : ∃ n, n = code.length := ⟨_, rfl⟩
    rw [← hn] at hn1024
    have Hn := Lib.hid hn
    have hcv := HX.out.code
    obtain ⟨-, ac, cc, hvc, -, -, -, hac⟩ := hcv
    rw [← hn] at hvc hac
    subst hvc
    have hac' : 0 < n → ∃ b off, ac = some ⟨b, off, none⟩ := fun h => by obtain ⟨b, off, e, _⟩ := hac h; exact ⟨b, off, e⟩
    clear hn hac
    obtain ⟨Fg, hFg⟩ : ∃ Fg, Fg = w2.heap.size := ⟨_, rfl⟩
    have hmr : (Instr.makeSlice 50 (.int .i64 (n : Int)) (.int .i64 (n : Int))).run Tryd.prog w2 = .ok (.slice (some ⟨Fg, 0, none⟩) n n) (w2.alloc (.cells (nilRows n) 38)) := by rw [hFg]; exact make_rows_run n (by omega) w2
    have hR0 : FromIn (w2.alloc (.cells (nilRows n) 38)) (Fg + 1) Fg n (List.replicate n nilV) (fun _ => []) := by
      rw [hFg]; exact FromIn.start w2 n (by omega) (by omega)
    have HFg := Lib.hid hFg
    have hwF : w.heap.size < Fg := by rw [hFg]; exact HX.out.lt
    have HR0 := Lib.hid hR0
    have f4 := HX.out.fn.c4
    clear hR0 hFg
    go_wp2_with fail
    clear hmr f4
    go_loopg [8, 9, 10, 11, 12, 13] m (fun g iv _ _ _ _ _ wx => ∃ (i : Nat) (vs : List Value), g = m - i ∧ iv = .int .i64 (i : Int) ∧ i ≤ m ∧ FromIn wx (Fg + 1) Fg n vs (fun x => goneF code i (x : Nat)) ∧ Below Fg w2 wx)
    case atStart => exact ⟨0, _, rfl, rfl, Nat.zero_le _, by rw [goneF_zero]; exact HR0.out, by rw [HFg.out]; exact (Below.refl _ _).alloc (Nat.le_refl _) _⟩
    case round =>
      obtain ⟨i, vs, hg, rfl, hi, hR, hb⟩ := hrel
      obtain ⟨wo, rfl⟩ : ∃ W, W = wr := ⟨_, rfl⟩
      have Hg := Lib.hid hg
      have HR := Lib.hid hR
      have Hbo := Lib.hid hb
      clear hg hR hb HR0
      by_cases him : i < m
      · as_aux_lemma =>
        --<A
        obtain ⟨gv, ov, rfl, hgv⟩ := hav (by omega)
        obtain ⟨x, hx⟩ : ∃ x, l[i]? = some x := ⟨_, List.getElem?_eq_getElem (by rw [← Hm.out]; exact him)⟩
        obtain ⟨X1, X2, X3, -⟩ := HT.out.at' hx
        obtain ⟨hh1, hh2, -, -, -⟩ := HT.out.head_at hx
        rw [← Hn.out] at hh2
        have hmem := fun (j : Nat) (u : Int) (hu : x.mem[j]? = some u) => HT.out.mem_at hx hu
        have hXo := HX.out.later (by rw [← HFg.out]; exact Hbo.out)
        obtain ⟨hxm, hxb⟩ := hXo.loops.each x (List.mem_of_getElem? hx)
        obtain ⟨c0, c1, c2, c3⟩ := hXo.loops.at' (by exact hx)
        obtain ⟨K1, K2, K3, K4⟩ := counts_ok (Hcn.out _ (List.mem_of_getElem? X1))
        have hbne : toI (backsE code) x.head ≠ [] := headsL_mem.1 (List.mem_of_getElem? X1)
        rw [← X2] at K3 K4
        rw [← X3] at K2 K3 hbne
        obtain ⟨xh, xp, xvm, xvb, xm, xb⟩ := x
        simp only at c0 c1 c2 c3 hxm hxb hh1 hh2 hmem K1 K2 K3 K4 hbne X1 X2 X3
        rw [← Hn.out] at hmem
        obtain ⟨hq, rfl⟩ : ∃ a : Nat, xh = a := ⟨xh.toNat, by omega⟩
        have hqn : hq < n := by omega
        have hxm0 := hxm
        have hxb0 := hxb
        obtain ⟨-, am, cm, rfl, -, hmm, -, ham⟩ := hxm0
        obtain ⟨-, ab, cb, rfl, -, hbm, -, -⟩ := hxb0
        obtain ⟨nm, hnm⟩ : ∃ nm, nm = xm.length := ⟨_, rfl⟩
        obtain ⟨nb, hnb⟩ : ∃ nb, nb = xb.length := ⟨_, rfl⟩
        have hnm9 : nm ≤ 1000000 := by
          rw [hnm, X2]
          exact Nat.le_trans (memL_len code _) (by rw [← Hn.out]; omega)
        have hnb9 : nb ≤ 2048 := by rw [hnb, X3]; exact toI_lenB code _
        have hnb0 : nb ≠ 0 := fun e => hbne (List.eq_nil_of_length_eq_zero (by rw [← hnb]; exact e))
        rw [← hnm] at c2 ham
        rw [← hnb] at c3
        obtain ⟨gc, oc, rfl⟩ := hac' (by omega)
        have hcode := hXo.code
        have Hcd : Hid (∀ W, Below wo.heap.size wo W → ∀ u : Nat, u < n → W.cell? ⟨gc, oc + u * 5, none⟩ = some (.int .i64 (insAt code u).op) ∧ W.cell? ⟨gc, oc + u * 5 + 1, none⟩ = some (.int .i64 (insAt code u).a) ∧ W.cell? ⟨gc, oc + u * 5 + 2, none⟩ = some (.int .i64 (insAt code u).b) ∧ W.cell? ⟨gc, oc + u * 5 + 3, none⟩ = some (.int .i64 (insAt code u).c) ∧ W.cell? ⟨gc, oc + u * 5 + 4, none⟩ = some (.int .i64 (insAt code u).n)) := fun W hb u hu =>
          CodeIn.at (SliceIn.later hcode hb) rfl (insAt_get (by rw [← Hn.out]; exact hu))
        obtain ⟨i0, i1, i2, i3, i4⟩ := Hcd.out wo (Below.refl _ _) hq hqn
        rw [K1] at i0
        have hgone := HR.out.each hq hqn
        rw [goneF_new X1] at hgone
        obtain ⟨ag, cg, hgv2⟩ := ints_form hgone
        have hcg := HR.out.cell hqn
        rw [hgv2] at hcg
        simp only [List.length_nil] at hcg
        obtain ⟨f0, f1, f2, f3, f4⟩ := hXo.fn
        have HXo := Lib.hid hXo
        have HK := Lib.hid (And.intro K2 (And.intro K3 K4))
        have Hmem := Lib.hid hmem
        have Hx := Lib.hid (And.intro hx (And.intro X1 (And.intro X2 X3)))
        have Hxmb := Lib.hid (And.intro hxm hxb)
        have Hnn := Lib.hid (And.intro hnm hnb)
        obtain ⟨G, hG⟩ : ∃ G, G = wo.heap.size := ⟨_, rfl⟩
        have HG := Lib.hid hG
        clear hXo hcode hgone hgv2 K1 K2 K3 K4 hbne hmem hx X1 X2 X3 hxm hxb hnm hnb hG hh1 hh2 hmm hbm f0 f1 f2 f3 c1
        have q1 : ((nb : Int) == 0) = false := by simp; omega
        go_upto_region 14 with (fail)
        have hE0 : (wo.alloc (.cells #[] 3)).ownsRow wo.heap.size 3 1 (.slice (some ⟨wo.heap.size, 0, none⟩) 0 0) 0 [] := owns_empty wo _ _ (Nat.le_refl _)
        have hxbA : SliceIn (wo.alloc (.cells #[] 3)) (.slice ab nb cb) nb 1 (intVs xb) := by
          have h := SliceIn.later Hxmb.out.2 ((Below.refl wo.heap.size wo).alloc (Nat.le_refl _) (.cells #[] 3))
          rw [← Hnn.out.2] at h
          exact h
        have HEA := Lib.hid (And.intro hE0 hxbA)
        clear hE0 hxbA
        have c3' : (wo.alloc (.cells #[] 3)).cell? ⟨gv, ov + i * 4 + 3, none⟩ = some (.slice ab nb cb) := by
          rw [World.cell?_alloc_past _ _ _ (by show gv < _; exact block_lt_of_cell c3)]; exact c3
        go_wp2_with (at_builtin; refine append_gen rfl _ _ 38 rfl Tryd.underlying38 Tryd.infoInt rfl (by decide) wo.heap.size _ 0 [] rfl HEA.out.1 _ nb (intVs xb) rfl HEA.out.2 ?_ ?_ ?_ ?_ ?_)
        · intro u hu; unfold intVs at hu; obtain ⟨y, _, rfl⟩ := List.mem_map.1 hu; rfl
        · unfold maxLen; omega
        · omega
        · simp
        · intro v' w' ho hgr hfr hbb
          have hb' : Below wo.heap.size wo w' := hbb _ _ ((Below.refl _ _).alloc (Nat.le_refl _) _) (Nat.le_refl _)
          have hov : OwnInts w' wo.heap.size v' xb := by unfold OwnInts; rw [← Hnn.out.2]; simpa using ho
          obtain ⟨a', c', rfl⟩ := ints_form hov
          have hR' := HR.out.later hb'
          have hcF := hR'.cell hqn
          have hzF := hR'.free hq
          obtain ⟨vq, hvq⟩ : ∃ vq, vq = vs.getD hq nilV := ⟨_, rfl⟩
          rw [← hvq] at hcF
          have hRS : FromIn (w'.setCell ⟨Fg, hq, none⟩ (.slice a' xb.length c')) (Fg + 1) Fg n (vs.set hq (.slice a' xb.length c')) (fun x => goneF code (i + 1) (x : Nat)) := by
            have h1 := hR'.lay hqn (v' := .slice a' xb.length c') (l' := xb) (ownsRow_mono hov (by have := (World.ownsRow.lt HR.out.row Fg rfl).2; omega)) (fun y hy k hk e => by
              have e1 := (World.ownsRow.lt (HR.out.each y hy) k hk).2
              have e2 := (World.ownsRow.lt hov k e).1
              omega)
            have e3 : (fun x : Nat => if x = hq then xb else goneF code i x) = fun x : Nat => goneF code (i + 1) x := by
              funext y
              rw [goneF_succ Hx.out.2.1]
              by_cases hy : y = hq
              · subst hy; rw [if_pos rfl, if_pos rfl]; exact Hx.out.2.2.2
              · rw [if_neg hy, if_neg (by omega)]
            rw [← e3]
            exact h1
          have hbS : Below Fg w2 (w'.setCell ⟨Fg, hq, none⟩ (.slice a' xb.length c')) := (Hbo.out.trans (hb'.mono (by rw [HFg.out]; exact Hbo.out.size))).setCell (Nat.le_refl _) _
          obtain ⟨wS, hwS⟩ : ∃ wS, wS = w'.setCell ⟨Fg, hq, none⟩ (.slice a' xb.length c') := ⟨_, rfl⟩
          have hsS : wo.heap.size ≤ wS.heap.size := by rw [hwS, size_set]; exact hb'.size
          rw [← hwS] at hRS hbS
          have HS := Lib.hid (And.intro hRS (And.intro hbS hsS))
          have HwS := Lib.hid hwS
          clear ho hgr hfr hbb hb' hov hR' hvq hRS hbS hsS hwS
          have HFS : Hid (Fg ≤ wS.heap.size) := by
            have h1 := HS.out.2.1.size
            have h2 := HFg.out
            show _ ≤ _
            omega
          go_upto_region 15 with (fail)
          rw [← HwS.out]
          clear c0 c2 c3 c3' hcF hzF i0 i1 i2 i3 i4 ham hcg f4 q1 HEA Hcd HwS HXo Hxmb HR Hbo hav
          go_wp2_with fail
          go_loopg [10, 11, 12, 13] nm (fun g kv _ _ _ wx => ∃ k : Nat, g = nm - k ∧ kv = .int .i64 (k : Int) ∧ k ≤ nm ∧ Below wS.heap.size wS wx)
          case atStart => exact ⟨0, rfl, rfl, Nat.zero_le _, Below.refl _ _⟩
          case round =>
            obtain ⟨k, hg, rfl, hk, hb⟩ := hrel
            have Hg2 := Lib.hid hg
            have Hbk : Hid (Below Fg w2 wr) := HS.out.2.1.trans (hb.mono HFS.out)
            have Hb2k := Lib.hid hb
            clear hg hb
            have hXr := HX.out.later (by rw [← HFg.out]; exact Hbk.out)
            obtain ⟨c0, c1, c2, c3⟩ := hXr.loops.at' Hx.out.1
            obtain ⟨hxm, hxb⟩ := hXr.loops.each _ (List.mem_of_getElem? Hx.out.1)
            simp only at c0 c1 c2 c3 hxm hxb
            have f4 := hXr.fn.c4
            have hcode := hXr.code
            have Hxb := Lib.hid hxb
            obtain ⟨-, a2, c2', e2, -, -, -, ham⟩ := hxm
            cases e2
            have hxbf := hxb
            rw [← Hnn.out.1] at c2 ham
            rw [← Hnn.out.2] at c3
            clear hXr hxbf c0 c1 hxb
            by_cases hkn : k < nm
            · as_aux_lemma =>
              obtain ⟨gm, om, rfl, hgm, hcm⟩ := ham (by omega)
              obtain ⟨u, hu⟩ : ∃ u, xm[k]? = some u := ⟨_, List.getElem?_eq_getElem (by rw [← Hnn.out.1]; exact hkn)⟩
              obtain ⟨hu1, hu2, -⟩ := Hmem.out k u hu
              have hum : u ∈ xm := List.mem_of_getElem? hu
              obtain ⟨q, rfl⟩ : ∃ q : Nat, u = q := ⟨u.toNat, by omega⟩
              have hqn2 : q < n := by omega
              have hcu : wr.cell? ⟨gm, om + k, none⟩ = some (.int .i64 q) := hcm k _ (by simp [intVs, hu])
              obtain ⟨i0, i1, i2, i3, i4⟩ := CodeIn.at hcode rfl (insAt_get (code := code) (u := hq) (by rw [← Hn.out]; exact hqn))
              obtain ⟨j0, j1, j2, j3, j4⟩ := CodeIn.at hcode rfl (insAt_get (code := code) (u := q) (by rw [← Hn.out]; exact hqn2))
              have hne := HK.out.2.2 _ hum
              have hdr := HK.out.2.1 _ hum
              have hbk := HK.out.1 (q : Int)
              have hst : (q : Int) ∈ xb → (insAt code q).op = 18 → (insAt code q).n = hq := fun h1 h2 => by
                rw [Hx.out.2.2.2, toI_mem] at h1
                unfold backsE backsIn at h1
                exact step_back (List.mem_filter.1 h1).1 h2
              obtain ⟨ih, hih⟩ : ∃ x, x = insAt code (hq : Int) := ⟨_, rfl⟩
              obtain ⟨iq, hiq⟩ : ∃ x, x = insAt code (q : Int) := ⟨_, rfl⟩
              unfold badBack at hbk
              unfold drives at hdr
              rw [← hih] at i0 i1 i2 i3 i4 hne hdr hbk
              rw [← hiq] at j0 j1 j2 j3 j4 hdr hbk hst
              clear hih hiq hcm ham hcode hu i3
              obtain ⟨ho, ha, hb', hc', hN⟩ := ih
              obtain ⟨qo, qa, qb, qc, qN⟩ := iq
              simp only at i0 i1 i2 i4 j0 j1 j2 j3 j4 hne hdr hbk hst
              obtain ⟨y, hy⟩ : ∃ y, y = writesI qo qa := ⟨_, rfl⟩
              rw [← hy] at hdr
              have Hy := Lib.hid hy
              have Hj := Lib.hid (And.intro j0 (And.intro j1 (And.intro j2 (And.intro j3 j4))))
              have Hi := Lib.hid (And.intro i1 (And.intro i2 f4))
              have Hi4 := Lib.hid i4
              clear hy
              have g1 : decide ((q : Int) < 0) = false := by simp
              have g2 : decide (n ≤ q) = false := by simp; omega
              have g3 : decide ((n : Int) ≤ (q : Int)) = false := by simp; omega
              have g4 : (hN == (q : Int)) = false := by simp; omega
              clear hu1 hu2 i0
              obtain ⟨bk, hbk2⟩ : ∃ bk, bk = xb.contains (q : Int) := ⟨_, rfl⟩
              have hbkm : bk = decide ((q : Int) ∈ xb) := by rw [hbk2]; simp
              rw [← hbkm] at hdr
              have Hq := Lib.hid (And.intro hbkm (And.intro hdr (And.intro hbk (And.intro hst hne))))
              have Hbk2 := Lib.hid hbk2
              clear hbkm hdr hbk hst hne hbk2 hum i1 i2 i4 j0 j1 j2 j3 j4
              go_upto_region 19 with (fail)
              have i4 := Hi4.out
              go_upto_region 21 with (fail)
              clear g1 g2 g3 g4 hcu c2 i4
              have hxb2 : IntsIn wr (.slice ab nb cb) xb := by rw [Hnn.out.2]; exact Hxb.out
              have Hxb2 := Lib.hid hxb2
              clear hxb2
              go_wp2_with fail
              refine (rhas_any _ xb (q : Int) _ Hxb2.out).mono ?_
              rintro e w3 ⟨rfl, rfl⟩
              rw [← Hbk2.out]
              clear c3
              have HL : Hid (∀ W, Below wr.heap.size wr W → W.cell? ⟨w.heap.size, 4, none⟩ = some (.slice (some ⟨gc, oc, none⟩) n cc) ∧ W.cell? ⟨gc, oc + hq * 5 + 1, none⟩ = some (.int .i64 ha) ∧ W.cell? ⟨gc, oc + hq * 5 + 2, none⟩ = some (.int .i64 hb')) := fun W hb =>
                ⟨(hb.cell (block_lt_of_cell Hi.out.2.2)).trans Hi.out.2.2, (hb.cell (block_lt_of_cell Hi.out.1)).trans Hi.out.1, (hb.cell (block_lt_of_cell Hi.out.2.1)).trans Hi.out.2.1⟩
              have Hd : Hid (0 ≤ y → (y == hb') = false ∧ (bk = false → (y == ha) = false)) := fun h0 => by
                have h := Hq.out.2.1
                rw [Bool.or_eq_false_iff, decide_eq_true h0, Bool.and_true, Bool.and_true] at h
                refine ⟨h.2, fun h1 => ?_⟩
                have h2 := h.1
                rw [h1, Bool.not_false, Bool.and_true] at h2
                exact h2
              obtain ⟨j0, j1, j2, j3, j4⟩ := Hj.out
              obtain ⟨i1, i2, -⟩ := Hi.out
              have Hbt : Hid (bk = true → qo = 18 ∧ qa = ha ∧ qN = hq) := fun h1 => by
                have hm : (q : Int) ∈ xb := by
                  have h2 := Hq.out.1
                  rw [h1] at h2
                  exact of_decide_eq_true h2.symm
                have h3 := Hq.out.2.2.1 hm
                simp only [Bool.or_eq_false_iff, bne_eq_false_iff_eq] at h3
                exact ⟨h3.1, h3.2, Hq.out.2.2.2.1 hm h3.1⟩
              cases bk
              · clear i1 i2
                go_wp2_with (go_quiet (fail))
                refine (rwrites_any ⟨qo, qa, qb, qc, qN⟩ _).mono ?_
                rintro e w4 ⟨rfl, hb4⟩
                have hb5 : Below wr.heap.size wr w4 := (below_draws wr _).trans (hb4.mono (by simp))
                obtain ⟨f4, i1, i2⟩ := HL.out w4 hb5
                have Hb5 := Lib.hid hb5
                clear hb4 hb5
                simp only
                rw [← Hy.out]
                by_cases hy0 : 0 ≤ y
                · have g1 : decide (0 ≤ y) = true := decide_eq_true hy0
                  have g2 : (y == hb') = false := (Hd.out hy0).1
                  have g3 : (y == ha) = false := (Hd.out hy0).2 trivial
                  clear hy0
                  go_wp2_with fail
                  go_roundg (nm - (k + 1))
                  case measure => have := Hg2.out; omega
                  case rel => exact ⟨k + 1, rfl, by go_num, hkn, Hb2k.out.trans (Hb5.out.mono Hb2k.out.size)⟩
                · have g1 : decide (0 ≤ y) = false := decide_eq_false hy0
                  clear hy0
                  go_wp2_with fail
                  go_roundg (nm - (k + 1))
                  case measure => have := Hg2.out; omega
                  case rel => exact ⟨k + 1, rfl, by go_num, hkn, Hb2k.out.trans (Hb5.out.mono Hb2k.out.size)⟩
              · obtain ⟨rfl, rfl, rfl⟩ := Hbt.out rfl
                clear i2
                go_wp2_with (go_quiet (fail))
                refine (rwrites_any ⟨18, qa, qb, qc, (hq : Int)⟩ _).mono ?_
                rintro e w4 ⟨rfl, hb4⟩
                have hb5 : Below wr.heap.size wr w4 := (below_draws wr _).trans (hb4.mono (by simp))
                obtain ⟨f4, i1, i2⟩ := HL.out w4 hb5
                have Hb5 := Lib.hid hb5
                clear hb4 hb5
                simp only
                rw [← Hy.out]
                by_cases hy0 : 0 ≤ y
                · have g1 : decide (0 ≤ y) = true := decide_eq_true hy0
                  have g2 : (y == hb') = false := (Hd.out hy0).1
                  clear hy0
                  go_wp2_with fail
                  go_roundg (nm - (k + 1))
                  case measure => have := Hg2.out; omega
                  case rel => exact ⟨k + 1, rfl, by go_num, hkn, Hb2k.out.trans (Hb5.out.mono Hb2k.out.size)⟩
                · have g1 : decide (0 ≤ y) = false := decide_eq_false hy0
                  clear hy0
                  go_wp2_with fail
                  go_roundg (nm - (k + 1))
                  case measure => have := Hg2.out; omega
                  case rel => exact ⟨k + 1, rfl, by go_num, hkn, Hb2k.out.trans (Hb5.out.mono Hb2k.out.size)⟩
            · obtain rfl : nm = k := by omega
              go_wp2_with fail
              go_roundg (m - (i + 1))
              case measure => have := Hg.out; omega
              case rel => exact ⟨i + 1, _, rfl, by go_num, him, HS.out.1.later Hb2k.out, Hbk.out⟩
        --A>
      · as_aux_lemma =>
        obtain rfl : m = i := by omega
        have HXo := Lib.hid (HX.out.later (by rw [← HFg.out]; exact Hbo.out))
        have Hbo1 : Hid (Below w.heap.size w wo) := Hb2.out.trans (Hbo.out.mono (by omega))
        have HR2 : Hid (FromIn wo (Fg + 1) Fg n vs (fun x => toI (backsE code) (x : Nat))) := by
          have h := HR.out
          have e : (fun x : Nat => goneF code m (x : Nat)) = fun x : Nat => toI (backsE code) (x : Nat) := by
            funext x
            exact goneF_all (by rw [← HT.out.len, ← Hm.out]; exact Nat.le_refl _) _
          rw [e] at h
          exact h
        obtain ⟨f0, f1, f2, f3, f4⟩ := HXo.out.fn
        clear hav HR Hg hi
        go_wp2_with fail
        refine (redges_any s vp regs words (.slice ac n cc) code _ Hlen.out HXo.out.code).mono ?_
        rintro e wE ⟨ve, rfl, hve, hbE⟩
        obtain ⟨nE, hnE⟩ : ∃ nE, nE = (edgesL code).length := ⟨_, rfl⟩
        have hnE9 : nE ≤ 2048 := by rw [hnE]; exact edgesL_le code
        obtain ⟨ae, ce, rfl, hae⟩ : ∃ ae ce, ve = .slice ae nE ce ∧ (0 < nE → ∃ g, ae = some ⟨g, 0, none⟩ ∧ g < wE.heap.size) := by
          rcases hve.form with ⟨h, h2⟩ | ⟨g, c, h, _, h3, _⟩
          · exact ⟨none, 0, by rw [h, hnE, h2]; rfl, by rw [hnE, h2]; simp⟩
          · exact ⟨_, c, by rw [h, hnE], fun _ => ⟨g, rfl, h3⟩⟩
        have hvi : EdgesIn wE (.slice ae nE ce) (edgesL code) := SliceIn.of_owns hve
        obtain ⟨I, hI⟩ : ∃ I, I = wE.heap.size := ⟨_, rfl⟩
        have hFI : Fg < I := by
          have h1 := (World.ownsRow.lt HR2.out.row Fg rfl).2
          have h2 := hbE.size
          omega
        have hmk := fun w => make_ints_run n (by omega) w
        have Hve := Lib.hid hvi
        have HbE := Lib.hid hbE
        have HnE := Lib.hid hnE
        have HI := Lib.hid hI
        have hp0 : EP code wE ((wE.alloc (.cells (zeroInts n) 3)).alloc (.cells #[] 49)) I n 0 (.slice (some ⟨I + 1, 0, none⟩) 0 0) := by
          rw [hI]; exact EP.start code wE n (by omega)
        have Hp0 := Lib.hid hp0
        clear hve hvi hbE hnE f0 f1 f2 f3 f4 hI hp0
        go_wp2_with fail
        rw [← HI.out]
        clear hmk
        go_loopg [16, 17, 18] nE (fun g kv iv _ wx => ∃ e : Nat, g = nE - e ∧ iv = .int .i64 (e : Int) ∧ e ≤ nE ∧ EP code wE wx I n e kv)
        case atStart => exact ⟨0, rfl, rfl, Nat.zero_le _, Hp0.out⟩
        case round =>
          obtain ⟨e, hg, rfl, he, hP⟩ := hrel
          have Hg6 := Lib.hid hg
          have HP := Lib.hid hP
          clear hg hP
          by_cases hen : e < nE
          · as_aux_lemma =>
            --<B
            obtain ⟨ge, rfl, hge⟩ := hae (by omega)
            obtain ⟨⟨eu, ev⟩, hee⟩ : ∃ x, (edgesL code)[e]? = some x := ⟨_, List.getElem?_eq_getElem (by rw [← HnE.out]; exact hen)⟩
            have hem := List.mem_of_getElem? hee
            obtain ⟨u1, u2⟩ := edge_in hem
            obtain ⟨u, rfl⟩ : ∃ a : Nat, eu = a := ⟨eu.toNat, by have := u1.lo; omega⟩
            obtain ⟨v, rfl⟩ : ∃ a : Nat, ev = a := ⟨ev.toNat, by have := u2.lo; omega⟩
            have hvn : v < n := by have := u2.hi; rw [Hn.out]; omega
            have hbx : Below I wE wr := HP.out.below
            have ce1 : wr.cell? ⟨ge, e * 2, none⟩ = some (.int .i64 u) ∧ wr.cell? ⟨ge, e * 2 + 1, none⟩ = some (.int .i64 v) := by
              obtain ⟨b, off, h1, h2, h3, h4⟩ := EdgesIn.at' Hve.out hee
              cases h1
              rw [Nat.zero_add] at h3 h4
              rw [HI.out] at hbx
              exact ⟨(hbx.cell h2).trans h3, (hbx.cell h2).trans h4⟩
            have hro : Below wo.heap.size wo wr := HbE.out.trans (hbx.mono (by rw [HI.out]; exact HbE.out.size))
            have hRr := HR2.out.later hro
            obtain ⟨vq, hvq⟩ : ∃ vq, vq = vs.getD v nilV := ⟨_, rfl⟩
            have hcF := hRr.cell hvn
            have hev := hRr.each v hvn
            rw [← hvq] at hcF hev
            have Hvq : Hid (IntsIn wr vq (toI (backsE code) v)) := SliceIn.of_owns hev
            obtain ⟨bk, hbk⟩ : ∃ bk, bk = isBack code ((u : Int), (v : Int)) := ⟨_, rfl⟩
            have Hbk := Lib.hid hbk
            have Hee := Lib.hid hee
            have Hem := Lib.hid hem
            clear hee hem u1 u2 hbx hro hRr hvq hev hbk
            obtain ⟨ce1, ce2⟩ := ce1
            go_upto_region 33 with (fail)
            go_quiet ((go_at_call 16; exact Calls.quiet_of_same ((rhas_any vq _ (u : Int) _ (SliceIn.later Hvq.out (below_draws _ _))).mono fun _ _ h => ⟨h.1, h.2.symm⟩)))
            rw [gone_back Hem.out, ← Hbk.out]
            generalize hwq : wr.drewN nq = wq
            have hPq : EP code wE wq I n e u16 := by rw [← hwq]; exact HP.out.draws _
            have ce3 : wq.cell? ⟨ge, e * 2, none⟩ = some (.int .i64 u) ∧ wq.cell? ⟨ge, e * 2 + 1, none⟩ = some (.int .i64 v) := by
              rw [← hwq]
              exact ⟨ce1, ce2⟩
            have HPq := Lib.hid hPq
            clear hwq hPq ce1 ce2 hcF HP
            cases bk
            · obtain ⟨ce1, ce2⟩ := ce3
              have hal : Hid ((aheadIn code ((edgesL code).take e)).length ≤ 1000000000000 ∧ I + 1 ≤ wq.heap.size) := ⟨by
                have h1 := List.length_filter_le (fun x => !isBack code x) ((edgesL code).take e)
                have h2 := List.length_take_le e (edgesL code)
                unfold aheadIn
                have := HnE.out
                omega, by have := HPq.out.lt; omega⟩
              go_wp2_with (at_builtin; refine append_edge rfl _ _ rfl (I + 1) _ _ rfl HPq.out.kept _ _ rfl hal.out.1 hal.out.2 ?_)
              intro v' w' ho hgr hfr hbb
              have hb1 : Below (I + 1) wq w' := hbb _ _ (Below.refl _ _) (Nat.le_refl _)
              have hge' : ge < wq.heap.size := block_lt_of_cell ce1
              have hgI : ge < I + 1 := by rw [HI.out]; omega
              have d2 : w'.cell? ⟨ge, e * 2 + 1, none⟩ = some (.int .i64 v) := (hb1.cell (p := ⟨ge, e * 2 + 1, none⟩) hgI).trans ce2
              have hI' : OwnInts w' I (rowV I n) (rowF n fun v => (cntTo (aheadIn code ((edgesL code).take e)) [] v : Int)) := ownsRow_lowB HPq.out.into hb1 (fun k hk => by simp [Value.ownBlock] at hk; omega)
              have hcI := OwnInts.cell hI' (k := v) (by rw [rowF_len]; exact hvn)
              have hfI := OwnInts.free hI' v
              rw [rowF_get _ hvn] at hcI
              obtain ⟨c, hc⟩ : ∃ c, c = cntTo (aheadIn code ((edgesL code).take e)) [] (v : Int) := ⟨_, rfl⟩
              rw [← hc] at hcI
              have hc9 : c ≤ 2048 := by
                have h1 := List.length_filter_le (fun x => !isBack code x) ((edgesL code).take e)
                have h2 := List.length_take_le e (edgesL code)
                have h3 := cntTo_le (aheadIn code ((edgesL code).take e)) [] (v : Int)
                have h4 := HnE.out
                unfold aheadIn at h3 hc
                omega
              have HN := Lib.hid (HPq.out.next Hee.out (Hbk.out.symm) ho hb1 (c := (c : Int)) (by rw [hc]))
              clear ho hgr hfr hbb hb1 hI' hc ce1 ce2 hgI hal
              go_wp2_with fail
              go_roundg (nE - (e + 1))
              case measure => have := Hg6.out; omega
              case rel => exact ⟨e + 1, rfl, by go_num, hen, HN.out⟩
            · clear ce3
              go_wp2_with fail
              go_roundg (nE - (e + 1))
              case measure => have := Hg6.out; omega
              case rel => exact ⟨e + 1, rfl, by go_num, hen, HPq.out.skip Hee.out Hbk.out.symm⟩
            --B>
          · as_aux_lemma =>
            obtain rfl : nE = e := by omega
            obtain ⟨es, hes⟩ : ∃ es, es = aheadE code := ⟨_, rfl⟩
            have hA : aheadIn code ((edgesL code).take nE) = es := by rw [HnE.out, List.take_length, hes]; rfl
            have hes9 : es.length ≤ 2048 := by
              have h1 := List.length_filter_le (fun x => !isBack code x) (edgesL code)
              rw [hes]; unfold aheadE aheadIn
              have := HnE.out
              omega
            have hP := HP.out
            have hinto := hP.into
            have hkept := hP.kept
            rw [hA] at hinto hkept
            have hro : Below wo.heap.size wo wr := HbE.out.trans (hP.below.mono (by rw [HI.out]; exact HbE.out.size))
            have hIr := hP.lt
            have hke : EdgesIn wr u16 es := SliceIn.of_owns hkept
            have Hes := Lib.hid hes
            have Hke := Lib.hid hke
            have Hinto := Lib.hid hinto
            have Hro := Lib.hid hro
            clear hA hes hP hkept hke hinto hro HP Hg6
            go_wp2_with fail
            refine (rlists_any n u16 es false _ (by omega) (by omega) Hke.out (fun x hx => by
              rw [Hes.out] at hx
              obtain ⟨m1, m2, m3, m4, _⟩ := edgesL_mem (ahead_sub hx)
              rw [Hn.out]
              exact ⟨m1, m2, m3, m4⟩)).mono ?_
            rintro e w5 ⟨F2, vs2, rfl, hF2, hrF, hb5⟩
            have ho5 : Below wo.heap.size wo w5 := Hro.out.trans (hb5.mono Hro.out.size)
            obtain ⟨f0, f1, f2, f3, f4⟩ := (HXo.out.later ho5).fn
            have hinto5 : OwnInts w5 I (rowV I n) (rowF n fun v => (cntTo es [] v : Int)) := ownsRow_below Hinto.out hb5 (Nat.le_refl _)
            have HF2 := Lib.hid hF2
            have Ho5 := Lib.hid ho5
            have Hinto5 := Lib.hid hinto5
            have HrF : Hid (I < F2) := Nat.lt_of_lt_of_le hIr hrF
            clear hF2 ho5 hinto5 hb5 hrF Hinto Hke
            go_wp2_with fail
            refine (rreach_any s vp regs words (.slice ac n cc) code _ Hlen.out (HXo.out.later Ho5.out).code).mono ?_
            rintro e w6 ⟨vb, rfl, hvb, hb6⟩
            obtain ⟨rl, hrl⟩ : ∃ rl, rl = reachL code (-1) := ⟨_, rfl⟩
            rw [← hrl] at hvb
            obtain ⟨L, hL⟩ : ∃ L, L = rl.length := ⟨_, rfl⟩
            have hLn : L ≤ n := by
              rw [hL, hrl, reachL_length, Hn.out]
              split <;> omega
            obtain ⟨ab, cb, rfl, hab⟩ : ∃ ab cb, vb = .slice ab L cb ∧ (0 < L → ∃ g, ab = some ⟨g, 0, none⟩) := by
              rcases hvb.form with ⟨h, h2⟩ | ⟨g, c, h, _, h3, _⟩
              · exact ⟨none, 0, by rw [h, hL, h2]; rfl, by rw [hL, h2]; simp⟩
              · exact ⟨_, c, by rw [h, hL], fun _ => ⟨g, rfl⟩⟩
            obtain ⟨T, hT⟩ : ∃ T, T = w6.heap.size := ⟨_, rfl⟩
            have Hvb := Lib.hid hvb
            have Hrl := Lib.hid hrl
            have HL := Lib.hid hL
            have HTz := Lib.hid hT
            have Hinto6 : Hid (OwnInts w6 I (rowV I n) (rowF n fun v => (cntTo es [] v : Int))) := ownsRow_below Hinto5.out hb6 (Nat.le_refl _)
            have HF6 : Hid (FromIn w6 (F2 + 1) F2 n vs2 (fun x => outI es (x : Nat))) := HF2.out.later hb6
            have Ho6 : Hid (Below wo.heap.size wo w6) := Ho5.out.trans (hb6.mono Ho5.out.size)
            have hF2T : F2 < T := by rw [hT]; exact (World.ownsRow.lt HF6.out.row F2 rfl).2
            have Ht0 : Hid (OwnInts (w6.alloc (.cells #[] 3)) T (.slice (some ⟨T, 0, none⟩) 0 0) (todoTo es rl 0)) := by
              have h := owns_empty w6 (B := T) 3 1 (by rw [hT]; exact Nat.le_refl _)
              rw [← hT] at h
              exact h
            have Hb0 : Hid (Below T w6 (w6.alloc (.cells #[] 3))) := (Below.refl _ _).alloc (by rw [hT]; exact Nat.le_refl _) _
            clear hvb hrl hL hT hb6 Hinto5 HF2 Ho5 f0 f1 f2 f3 f4
            go_wp2_with fail
            rw [← HTz.out]
            go_loopg [21, 22, 23] L (fun g tv lv iv wx => ∃ v : Nat, g = L - v ∧ iv = .int .i64 (v : Int) ∧ v ≤ L ∧ lv = .int .i64 ((reachTo rl v).length : Nat) ∧ OwnInts wx T tv (todoTo es rl v) ∧ Below T w6 wx)
            case atStart => exact ⟨0, rfl, rfl, Nat.zero_le _, rfl, Ht0.out, Hb0.out⟩
            case round =>
              obtain ⟨v, hg, rfl, hv, rfl, ht, hb⟩ := hrel
              have Hg7 := Lib.hid hg
              have Ht := Lib.hid ht
              have Hb7 := Lib.hid hb
              clear hg ht hb
              obtain ⟨lf, hlf⟩ : ∃ lf, lf = (reachTo rl v).length := ⟨_, rfl⟩
              have hlf9 : lf ≤ 1024 := by rw [hlf]; exact Nat.le_trans (reachTo_len rl v) (by omega)
              rw [← hlf]
              have Hlf := Lib.hid hlf
              clear hlf
              by_cases hvL : v < L
              · as_aux_lemma =>
                --<C
                obtain ⟨gb, rfl⟩ := hab (by omega)
                have g1 : decide ((v : Int) < (n : Int)) = true := by simp; omega
                have g2 : decide ((v : Int) < (L : Int)) = true := by simp; omega
                have hb6' : Below w6.heap.size w6 wr := by rw [← HTz.out]; exact Hb7.out
                have hcb := OwnBools.cell (ownsRow_below Hvb.out hb6' (Nat.le_refl _)) (k := v) (by rw [← HL.out]; exact hvL)
                have hci := OwnInts.cell (ownsRow_below Hinto6.out hb6' (Nat.le_refl _)) (k := v) (by rw [rowF_len]; omega)
                rw [rowF_get _ (by omega)] at hci
                obtain ⟨b, hb⟩ : ∃ b, b = rl.getD v false := ⟨_, rfl⟩
                rw [← hb] at hcb
                obtain ⟨c, hc⟩ : ∃ c, c = cntTo es [] (v : Int) := ⟨_, rfl⟩
                rw [← hc] at hci
                have Hc := Lib.hid hc
                have Hbv := Lib.hid hb
                clear hb6' hb hc
                have hs1 := reachTo_succ rl v
                have hs2 := todoTo_succ es rl v
                rw [← Hbv.out] at hs1 hs2
                cases b
                · have HS : Hid ((reachTo rl (v + 1)).length = lf ∧ todoTo es rl (v + 1) = todoTo es rl v) := ⟨by rw [hs1, Hlf.out]; simp, by rw [hs2]; simp⟩
                  clear hs1 hs2 hci
                  go_wp2_with fail
                  go_roundg (L - (v + 1))
                  case measure => have := Hg7.out; omega
                  case rel => exact ⟨v + 1, rfl, by go_num, hvL, by rw [HS.out.1], by rw [HS.out.2]; exact Ht.out, Hb7.out⟩
                · have HS1 : Hid ((reachTo rl (v + 1)).length = lf + 1) := by show _ = _; rw [hs1, Hlf.out]; simp
                  clear hs1
                  by_cases hc0 : c = 0
                  · have HS : Hid (todoTo es rl (v + 1) = todoTo es rl v ++ [(v : Int)]) := by show _ = _; rw [hs2]; simp [← Hc.out, hc0]
                    have Hbx : Hid ((todoTo es rl v).length ≤ 1000000000000 ∧ T ≤ wr.heap.size) := ⟨Nat.le_trans (todoTo_len es rl v) (by omega), by have := Hb7.out.size; have := HTz.out; omega⟩
                    subst hc0
                    clear hs2
                    go_wp2_with (at_builtin; refine append_int rfl _ _ rfl T _ _ rfl Ht.out _ rfl Hbx.out.1 Hbx.out.2 ?_)
                    intro v' w' ho hgr hfr hbb
                    have HN := Lib.hid (And.intro ho (hbb T w6 Hb7.out (Nat.le_refl _)))
                    clear ho hgr hfr hbb
                    go_wp2_with fail
                    go_roundg (L - (v + 1))
                    case measure => have := Hg7.out; omega
                    case rel => exact ⟨v + 1, rfl, by go_num, hvL, by rw [HS1.out]; go_num, by rw [HS.out]; exact HN.out.1, HN.out.2⟩
                  · have HS : Hid (todoTo es rl (v + 1) = todoTo es rl v) := by show _ = _; rw [hs2]; simp [← Hc.out, hc0]
                    have g3 : ((c : Int) == 0) = false := by simp; omega
                    clear hs2 hc0
                    go_wp2_with fail
                    go_roundg (L - (v + 1))
                    case measure => have := Hg7.out; omega
                    case rel => exact ⟨v + 1, rfl, by go_num, hvL, by rw [HS1.out]; go_num, by rw [HS.out]; exact Ht.out, Hb7.out⟩
                --C>
              · as_aux_lemma =>
                obtain rfl : v = L := by omega
                obtain ⟨Rl, hRl⟩ : ∃ Rl, Rl = reachTo rl v := ⟨_, rfl⟩
                have hRn : reachTo rl n = Rl := by
                  rw [hRl, show n = v + (n - v) by omega]
                  exact reachTo_past (by rw [← HL.out]; exact Nat.le_refl _) _
                have hRnd : Rl.Nodup := by rw [hRl]; exact reachTo_nodup rl v
                have hmem : ∀ x ∈ Rl, 0 ≤ x ∧ x < n := fun x hx => by
                  rw [hRl] at hx
                  obtain ⟨h1, h2, _⟩ := reachTo_mem.1 hx
                  exact ⟨h1, by omega⟩
                have hes : ∀ e ∈ es, e.1 ∈ Rl ∧ e.2 ∈ Rl := fun e he => by
                  rw [Hes.out] at he
                  have h := ahead_reach he
                  rw [← Hrl.out, ← Hn.out, hRn] at h
                  exact h
                have hno' : ∀ v, ¬ Way es v v := by rw [Hes.out]; exact Hno.out
                have hlen : lf = Rl.length := by rw [Hlf.out, hRl]
                have hwI : w.heap.size ≤ I := by omega
                have hTK : TK es w wr I n F2 T (fun v => (cntTo es [] v : Int)) u21 (todoTo es rl v) := by
                  have hb6' : Below w6.heap.size w6 wr := by rw [← HTz.out]; exact Hb7.out
                  exact ⟨ownsRow_below Hinto6.out hb6' (Nat.le_refl _), Ht.out, (WaysAt.start HF6.out HrF.out HTz.out).later hF2T Hb7.out, Hbo1.out.trans ((Ho6.out.trans (hb6'.mono Ho6.out.size)).mono Hbo1.out.size), by have := Hb7.out.size; have := HTz.out; omega⟩
                have hKI := todo_start es rl v
                rw [← hRl] at hKI
                obtain ⟨T0, hT0⟩ : ∃ T0, T0 = todoTo es rl v := ⟨_, rfl⟩
                rw [← hT0] at hKI hTK
                have HP := Lib.hid (And.intro hRnd (And.intro hmem (And.intro hes hno')))
                have HTK := Lib.hid hTK
                have HKI := Lib.hid hKI
                have Hlen := Lib.hid hlen
                have Hw := Lib.hid (And.intro hwI (And.intro HrF.out hF2T))
                clear hRl hRn hRnd hmem hes hno' hlen hTK hKI hT0 hab Hvb Ht Hb7 Hinto6 HF6 Ho6 Ht0 Hb0 Hg7
                by_cases hvn : v < n
                · have hv0 : v = 0 := by
                    have h1 := HL.out
                    rw [Hrl.out, reachL_length, ← Hn.out] at h1
                    split at h1 <;> omega
                  have hl0 : lf = 0 := by
                    have := reachTo_len rl v
                    have := Hlf.out
                    omega
                  have hT1 : T0 = [] := by
                    have h := HKI.out.sub
                    have h2 := Hlen.out
                    refine List.eq_nil_iff_forall_not_mem.2 fun x hx => ?_
                    have h3 := h x (by simpa using hx)
                    rw [hl0] at h2
                    rw [List.eq_nil_of_length_eq_zero h2.symm] at h3
                    cases h3
                  obtain ⟨ta, tc, htv⟩ := ints_form HTK.out.todo
                  rw [hT1] at htv
                  subst htv
                  have g1 : decide ((v : Int) < (n : Int)) = true := by simp; omega
                  subst hl0
                  have HB : Hid (Below w.heap.size w wr) := HTK.out.below
                  clear HKI HTK hT1 HP Hlf Hlen hv0
                  go_wp2_with fail
                  go_loopg [21, 22, 24, 25, 26] 0 (fun g tv lv iv _ _ wx => tv = .slice ta 0 tc ∧ lv = .int .i64 0 ∧ iv = .int .i64 0 ∧ wx = wr)
                  case atStart => exact ⟨rfl, rfl, rfl, rfl⟩
                  case round =>
                    obtain ⟨rfl, rfl, rfl, hwx⟩ := hrel
                    have Hwx := Lib.hid hwx
                    clear hwx
                    go_wp2_with fail
                    go_ret
                    exact ⟨rfl, by rw [Hwx.out]; exact HB.out⟩
                · have g1 : decide ((v : Int) < (n : Int)) = false := by simp; omega
                  have g2 : decide (v < n) = false := by simp; omega
                  clear hv hvL Hlf
                  go_wp2_with fail
                  clear g1 g2
                  go_loopg [21, 22, 24, 25, 26] lf (fun g tv lv iv _ _ wx => ∃ (P Q : List Int) (i ld : Nat), g = ld ∧ iv = .int .i64 (i : Int) ∧ lv = .int .i64 (ld : Int) ∧ i = P.length ∧ ld + i = lf ∧ KI es (fun x => x ∈ Rl) P Q (fun v => (cntTo es P v : Int)) ∧ TK es w wx I n F2 T (fun v => (cntTo es P v : Int)) tv (P ++ Q))
                  case atStart => exact ⟨[], T0, 0, lf, rfl, rfl, rfl, rfl, by omega, HKI.out, HTK.out⟩
                  case round =>
                    obtain ⟨P, Q, i, ld, hg, rfl, rfl, hi, hld, hK, hT⟩ := hrel
                    have Hg8 := Lib.hid hg
                    have Hi8 := Lib.hid hi
                    have Hld := Lib.hid hld
                    have HK8 := Lib.hid hK
                    have HT8 := Lib.hid hT
                    clear hg hi hld hK hT HKI HTK
                    have hiL : i ≤ lf := by have := Hld.out; omega
                    cases Q with
                    | nil =>
                      as_aux_lemma =>
                      have hP0 : P.length = Rl.length := HK8.out.all HP.out.1 HP.out.2.2.2 (fun e he => (HP.out.2.2.1 e he).1)
                      have hl0 : ld = 0 := by
                        have h1 := Hlen.out
                        have h2 := Hi8.out
                        have h3 := Hld.out
                        omega
                      obtain ⟨ta, tc, htv⟩ := ints_form HT8.out.todo
                      rw [List.append_nil, ← Hi8.out] at htv
                      subst htv
                      subst hl0
                      have HB : Hid (Below w.heap.size w wr) := HT8.out.below
                      clear HT8 HK8 hP0 Hi8 Hld
                      go_wp2_with fail
                      go_ret
                      exact ⟨rfl, HB.out⟩
                    | cons u Q =>
                      as_aux_lemma =>
                      have hlen8 : (P ++ u :: Q).length ≤ lf := by rw [Hlen.out]; exact HK8.out.len
                      obtain ⟨m8, hm8⟩ : ∃ m8, m8 = (P ++ u :: Q).length := ⟨_, rfl⟩
                      rw [← hm8] at hlen8
                      have him8 : i < m8 := by have := Hi8.out; rw [hm8]; simp; omega
                      obtain ⟨gt, ct, htv⟩ : ∃ g c, u21 = .slice (some ⟨g, 0, none⟩) m8 c := by
                        rcases HT8.out.todo.form with ⟨_, h2⟩ | ⟨g, c, h, _⟩
                        · simp at h2
                        · exact ⟨g, c, by rw [hm8]; exact h⟩
                      subst htv
                      have hcu := OwnInts.cell HT8.out.todo (k := i) (by rw [← hm8]; exact him8)
                      rw [show (P ++ u :: Q).getD i 0 = u by rw [Hi8.out]; simp [List.getD]] at hcu
                      obtain ⟨hf1, hf2⟩ := HK8.out.front
                      have hu := HK8.out.sub u (by simp)
                      obtain ⟨hu1, hu2⟩ := HP.out.2.1 u hu
                      obtain ⟨q, rfl⟩ : ∃ q : Nat, u = q := ⟨u.toNat, by omega⟩
                      have hqn : q < n := by omega
                      obtain ⟨ld', rfl⟩ : ∃ d, ld = d + 1 := ⟨ld - 1, by have := Hld.out; omega⟩
                      obtain ⟨nu, hnu⟩ : ∃ nu, nu = (outI es (q : Int)).length := ⟨_, rfl⟩
                      have hnu9 : nu ≤ 2048 := by
                        rw [hnu]
                        have := List.length_filter_le (fun e : Edge => decide (e.1 = (q : Int))) es
                        unfold outI
                        rw [List.length_map]
                        omega
                      have HF8 := Lib.hid (And.intro hf1 hf2)
                      have Hnu := Lib.hid hnu
                      have Hm8 := Lib.hid hm8
                      have hld9 : ld' ≤ 1024 := by have := Hld.out; omega
                      clear hf1 hf2 hu hu1 hu2 hnu hm8
                      go_upto_region 52 with (fail)
                      clear hcu hlen8 him8
                      go_wp2_with fail
                      go_loopg [21, 25, 26] nu (fun g tv kv _ wx => ∃ (k : Nat) (Q2 : List Int), g = nu - k ∧ kv = .int .i64 (k : Int) ∧ k ≤ nu ∧ KI es (fun x => x ∈ Rl) (P ++ [(q : Int)]) Q2 (takeF es P q k) ∧ TK es w wx I n F2 T (takeF es P q k) tv (P ++ [(q : Int)] ++ Q2))
                      case atStart => exact ⟨0, Q, rfl, rfl, Nat.zero_le _, HF8.out.1, by rw [takeF_zero, List.append_assoc]; exact HT8.out⟩
                      case round =>
                        obtain ⟨k, Q2, hg, rfl, hk, hK, hT⟩ := hrel
                        have Hg9 := Lib.hid hg
                        have HK9 := Lib.hid hK
                        have HT9 := Lib.hid hT
                        clear hg hK hT HK8 HT8
                        have hlen9 : (P ++ [(q : Int)] ++ Q2).length ≤ lf := by rw [Hlen.out]; exact HK9.out.len
                        obtain ⟨m9, hm9⟩ : ∃ m9, m9 = (P ++ [(q : Int)] ++ Q2).length := ⟨_, rfl⟩
                        rw [← hm9] at hlen9
                        have him9 : i < m9 := by have := Hi8.out; rw [hm9]; simp; omega
                        obtain ⟨g9, c9, htv⟩ : ∃ g c, u21 = .slice (some ⟨g, 0, none⟩) m9 c := by
                          rcases HT9.out.todo.form with ⟨_, h2⟩ | ⟨g, c, h, _⟩
                          · simp at h2
                          · exact ⟨g, c, by rw [hm9]; exact h⟩
                        subst htv
                        have hcu := OwnInts.cell HT9.out.todo (k := i) (by rw [← hm9]; exact him9)
                        rw [show (P ++ [(q : Int)] ++ Q2).getD i 0 = q by rw [Hi8.out]; simp [List.getD]] at hcu
                        obtain ⟨wa, wc, hw1, hw2⟩ := HT9.out.ways q hqn
                        rw [← Hnu.out] at hw1
                        have Hm9 := Lib.hid hm9
                        clear hm9
                        by_cases hkn : k < nu
                        · obtain ⟨x, hx⟩ : ∃ x, (outI es (q : Int))[k]? = some x := ⟨_, List.getElem?_eq_getElem (by rw [← Hnu.out]; exact hkn)⟩
                          have hxe := outI_mem.1 (List.mem_of_getElem? hx)
                          have hxR := (HP.out.2.2.1 _ hxe).2
                          simp only at hxR
                          obtain ⟨x1, x2⟩ := HP.out.2.1 x hxR
                          obtain ⟨p, rfl⟩ : ∃ p : Nat, x = p := ⟨x.toNat, by omega⟩
                          have hpn : p < n := by omega
                          obtain ⟨gw, rfl, hgI, hgT, hcx⟩ := hw2 k _ hx
                          have hci := OwnInts.cell HT9.out.into (k := p) (by rw [rowF_len]; exact hpn)
                          have hfi := OwnInts.free HT9.out.into p
                          rw [rowF_get _ hpn] at hci
                          have hp1 := takeF_pos HF8.out.2 hx
                          have hp2 := (takeF_range es P (q : Int) HF8.out.2 k (p : Int)).2
                          have Hsucc := Lib.hid (takeF_succ (P := P) hx)
                          have HS0 := Lib.hid (fun c => HT9.out.store Hw.out.1 Hw.out.2.1 Hw.out.2.2 p c)
                          obtain ⟨z, hz⟩ : ∃ z : Nat, takeF es P (q : Int) k (p : Int) = (z : Int) + 1 := ⟨(takeF es P (q : Int) k (p : Int) - 1).toNat, by omega⟩
                          rw [hz] at hci hp2
                          have hz9 : z ≤ 2048 := by omega
                          have Hx := Lib.hid (And.intro hx (And.intro hxR hz))
                          clear hw2 hx hxe hxR x1 x2 hp1 hp2 hz
                          go_upto_region 57 with (fail)
                          obtain ⟨wS, hwS⟩ : ∃ W, W = wr.setCell ⟨I, p, none⟩ (.int .i64 (z : Int)) := ⟨_, rfl⟩
                          have hS := HS0.out (z : Int)
                          have hFs : (fun v => if v = (p : Int) then (z : Int) else takeF es P (q : Int) k v) = takeF es P (q : Int) (k + 1) := by
                            rw [Hsucc.out, Hx.out.2.2, Int.add_sub_cancel]
                          rw [hFs, ← hwS] at hS
                          rw [← hwS]
                          have hcz := OwnInts.cell hS.into (k := p) (by rw [rowF_len]; exact hpn)
                          rw [rowF_get _ hpn, Hsucc.out] at hcz
                          simp only [if_true] at hcz
                          rw [Hx.out.2.2, Int.add_sub_cancel] at hcz
                          have HS := Lib.hid hS
                          have Hlb : Hid ((P ++ [(q : Int)] ++ Q2).length ≤ 1000000000000 ∧ T ≤ wS.heap.size) := ⟨by rw [← Hm9.out]; omega, hS.le⟩
                          have hz1 : takeF es P (q : Int) k (p : Int) - 1 = z := by rw [Hx.out.2.2]; omega
                          have Hz1 := Lib.hid hz1
                          clear hwS hS hFs hz1 hci hfi hcx hw1 hcu
                          by_cases hz0 : z = 0
                          · subst hz0
                            have HKp := Lib.hid (KI.push HK9.out HF8.out.2 Hx.out.1 Hx.out.2.1 Hz1.out)
                            go_wp2_with (at_builtin; refine append_int rfl _ _ rfl T _ _ rfl HS.out.todo _ rfl Hlb.out.1 Hlb.out.2 ?_)
                            intro v' w' ho hgr hfr hbb
                            have HN := Lib.hid (HS.out.push Hw.out.1 Hw.out.2.1 Hw.out.2.2 ho (hbb T wS (Below.refl _ _) (Nat.le_refl _)))
                            clear ho hgr hfr hbb
                            go_wp2_with fail
                            go_roundg (nu - (k + 1))
                            case measure => have := Hg9.out; omega
                            case rel => exact ⟨k + 1, Q2 ++ [(p : Int)], rfl, by go_num, hkn, HKp.out, by simpa using HN.out⟩
                          · have HKs := Lib.hid (KI.stay HK9.out HF8.out.2 Hx.out.1 Hx.out.2.1 (by rw [Hz1.out]; omega))
                            have g3 : ((z : Int) == 0) = false := by simp; omega
                            clear hz0
                            go_wp2_with fail
                            go_roundg (nu - (k + 1))
                            case measure => have := Hg9.out; omega
                            case rel => exact ⟨k + 1, Q2, rfl, by go_num, hkn, HKs.out, HS.out⟩
                        · obtain rfl : nu = k := by omega
                          have hall := takeF_all HF8.out.2 (i := nu) (by rw [Hnu.out]; exact Nat.le_refl _)
                          have HK10 := Lib.hid (And.intro HK9.out HT9.out)
                          rw [hall] at HK10
                          clear hw2 hall
                          go_wp2_with fail
                          go_roundg ld'
                          case measure => have := Hg8.out; omega
                          case rel => exact ⟨P ++ [(q : Int)], Q2, i + 1, ld', rfl, by go_num, by go_num, by rw [Hi8.out]; simp, by have := Hld.out; omega, HK10.out.1, HK10.out.2⟩
  · have hm0 : m = 0 := by
      rcases Hf.out with ⟨_, h⟩ | ⟨h, _⟩
      · rw [Hm.out, h]; rfl
      · exact absurd h hE
    subst hm0
    have hq : (E != 0) = true := by simp [hE]
    have Hb2' := Hb2
    clear hE Hf HX hav
    go_wp2_with fail
    go_ret
    exact ⟨rfl, Hb2'.out⟩
end Go.Proofs.YtapjdndcnenadaaDoor
