/- The reference's Split: the edges of a function, the back edges apart. -/
import Derived.Test.YtapjdndcnenadaaDoorFindPlain
import Derived.Test.YtapjdndcnenadaaDoorREdges
import Derived.Test.YtapjdndcnenadaaDoorRLists
import Derived.StillTailTactics
namespace Go.Proofs.YtapjdndcnenadaaDoor
open Go.RowKit

theorem aheadIn_one (code : List Ins) (es : List Edge) (e : Edge) : aheadIn code (es ++ [e]) = if isBack code e = true then aheadIn code es else aheadIn code es ++ [e] := by
  unfold aheadIn
  rw [List.filter_append]
  cases h : isBack code e <;> simp [h]
theorem backsIn_one (code : List Ins) (es : List Edge) (e : Edge) : backsIn code (es ++ [e]) = if isBack code e = true then backsIn code es ++ [e] else backsIn code es := by
  unfold backsIn
  rw [List.filter_append]
  cases h : isBack code e <;> simp [h]
/-- An edge goes back, if without its end its beginning can't be reached. -/
theorem back_without {code : List Ins} {u v : Nat} (he : ((u : Int), (v : Int)) ∈ edgesL code) : isBack code ((u : Int), (v : Int)) = !(reachL code (v : Int)).getD u false := by
  obtain ⟨h1, h2, h3, h4, h5, h6, h7, h8⟩ := edgesL_mem he
  simp only [Int.toNat_natCast] at h7 h8
  have hg := reachL_get (code := code) (gone := (v : Int)) h6 (v := u) (by simp only at h2; omega)
  rw [Bool.eq_iff_iff, isBack_iff]
  unfold Dom
  constructor
  · rintro ⟨_, _, h | h⟩
    · subst h
      rw [Bool.not_eq_true', Bool.eq_false_iff]
      intro e
      exact (hg.1 e).ne rfl
    · rw [Bool.not_eq_true', Bool.eq_false_iff]
      exact fun e => h (hg.1 e)
  · intro h
    rw [Bool.not_eq_true', Bool.eq_false_iff] at h
    exact ⟨h8, h7, .inr fun e => h (hg.2 e)⟩

/-- Two lists of edges of the call's own, apart from one another and from the list of all edges. -/
structure SP (code : List Ins) (wE wx : World) (B e : Nat) (ve va vb : Value) : Prop where
  all : OwnEdges wx B ve (edgesL code)
  ahead : OwnEdges wx B va (aheadIn code ((edgesL code).take e))
  backs : OwnEdges wx B vb (backsIn code ((edgesL code).take e))
  apart : ∀ k, va.ownBlock = some k → vb.ownBlock ≠ some k
  apart2 : ∀ k, ve.ownBlock = some k → va.ownBlock ≠ some k ∧ vb.ownBlock ≠ some k
  below : Below B wE wx
theorem SP.later {code : List Ins} {wE wx w' : World} {B e : Nat} {ve va vb : Value} (h : SP code wE wx B e ve va vb) (hb : Below wx.heap.size wx w') (hB : B ≤ wx.heap.size) : SP code wE w' B e ve va vb :=
  ⟨ownsRow_below h.all hb (Nat.le_refl _), ownsRow_below h.ahead hb (Nat.le_refl _), ownsRow_below h.backs hb (Nat.le_refl _), h.apart, h.apart2, h.below.trans (hb.mono hB)⟩
theorem own_kept {W w' : World} {B : Nat} {e : TypeId} {size : Nat} {v u : Value} {n : Nat} {xs : List Value} {o : Obj} (h : W.ownsRow B e size v n xs) (hg : (W.alloc o).grownBy w' u.ownBlock) (hne : ∀ k, v.ownBlock = some k → u.ownBlock ≠ some k) : w'.ownsRow B e size v n xs := by
  refine World.ownsRow.kept (World.ownsRow.alloc h _) hg ?_
  cases hv : v.ownBlock with
  | none => exact .inl rfl
  | some k => exact .inr (fun e => hne k hv e.symm)
theorem SP.back {code : List Ins} {wE wx w' : World} {B e : Nat} {ve va vb v' : Value} (h : SP code wE wx B e ve va vb) {x : Edge} (he : (edgesL code)[e]? = some x) (hk : isBack code x = true) {o : Obj}
    (ho : OwnEdges w' B v' (backsIn code ((edgesL code).take e) ++ [x])) (hg : (wx.alloc o).grownBy w' vb.ownBlock) (hf : Fresh (wx.alloc o) vb v') (hbb : Below B wE w') : SP code wE w' B (e + 1) ve va v' := by
  have e1 : aheadIn code ((edgesL code).take (e + 1)) = aheadIn code ((edgesL code).take e) := by rw [take_snoc' he, aheadIn_one, if_pos hk]
  have e2 : backsIn code ((edgesL code).take (e + 1)) = backsIn code ((edgesL code).take e) ++ [x] := by rw [take_snoc' he, backsIn_one, if_pos hk]
  refine ⟨own_kept h.all hg (fun k hk => (h.apart2 k hk).2), by rw [e1]; exact own_kept h.ahead hg h.apart, by rw [e2]; exact ho, fun k hk => ?_, fun k hk => ⟨(h.apart2 k hk).1, ?_⟩, hbb⟩
  · have h1 := (World.ownsRow.lt h.ahead k hk).2
    exact hf k (by simp; omega) (h.apart k hk)
  · have h1 := (World.ownsRow.lt h.all k hk).2
    exact hf k (by simp; omega) (h.apart2 k hk).2
theorem SP.fore {code : List Ins} {wE wx w' : World} {B e : Nat} {ve va vb v' : Value} (h : SP code wE wx B e ve va vb) {x : Edge} (he : (edgesL code)[e]? = some x) (hk : isBack code x = false) {o : Obj}
    (ho : OwnEdges w' B v' (aheadIn code ((edgesL code).take e) ++ [x])) (hg : (wx.alloc o).grownBy w' va.ownBlock) (hf : Fresh (wx.alloc o) va v') (hbb : Below B wE w') : SP code wE w' B (e + 1) ve v' vb := by
  have e1 : backsIn code ((edgesL code).take (e + 1)) = backsIn code ((edgesL code).take e) := by rw [take_snoc' he, backsIn_one, if_neg (by simp [hk])]
  have e2 : aheadIn code ((edgesL code).take (e + 1)) = aheadIn code ((edgesL code).take e) ++ [x] := by rw [take_snoc' he, aheadIn_one, if_neg (by simp [hk])]
  refine ⟨own_kept h.all hg (fun k hk => (h.apart2 k hk).1), by rw [e2]; exact ho, by rw [e1]; exact own_kept h.backs hg (fun k h5 e => h.apart k e h5), fun k hk h5 => ?_, fun k hk => ⟨?_, (h.apart2 k hk).2⟩, hbb⟩
  · have h1 := (World.ownsRow.lt h.backs k h5).2
    exact hf k (by simp; omega) (fun e => h.apart k e h5) hk
  · have h1 := (World.ownsRow.lt h.all k hk).2
    exact hf k (by simp; omega) (h.apart2 k hk).1

def RetSplit (code : List Ins) (w : World) (e : Ending) (w' : World) : Prop :=
  ∃ va vb, e = .returned (.tuple #[va, vb]) ∧ OwnEdges w' w.heap.size va (aheadE code) ∧ OwnEdges w' w.heap.size vb (backsE code) ∧ Below w.heap.size w w'

set_option maxRecDepth 100000 in
set_option maxHeartbeats 4000000 in
theorem rsplit_any (s : ByteArray) (vp : Value) (regs words : Int) (vc : Value) (code : List Ins) (w : World) (hlen : code.length * 40 ≤ 140737488351232) (hc : CodeIn w vc code) :
    Calls Tryd.prog 25 #[fnV s vp regs words vc] w (RetSplit code w) := by
  have Hc := Lib.hid hc
  have Hlen := Lib.hid hlen
  obtain ⟨W1, hW1⟩ : ∃ W1, W1 = ((w.alloc (.cells #[.string s, vp, .int .i64 regs, .int .i64 words, vc] 25)).alloc (.cells #[] 49)).alloc (.cells #[] 49) := ⟨_, rfl⟩
  have hb1 : Below w.heap.size w W1 := by rw [hW1]; exact (((Below.refl _ _).alloc (Nat.le_refl _) _).alloc (by (try simp only [World.size_alloc]); (try simp only [size_set]); omega) _).alloc (by (try simp only [World.size_alloc]); (try simp only [size_set]); omega) _
  have hs1 : W1.heap.size = w.heap.size + 3 := by rw [hW1]; simp
  have hf1 : FnAt W1 w.heap.size s vp regs words vc := by
    rw [hW1]
    exact (FnAt.box w s vp regs words vc _).later (((Below.refl (w.heap.size + 1) _).alloc (by simp) _).alloc (by simp) _) (Nat.lt_succ_self _)
  have hS1 : OwnEdges W1 (w.heap.size + 1) (.slice (some ⟨w.heap.size + 1, 0, none⟩) 0 0) [] ∧ OwnEdges W1 (w.heap.size + 1) (.slice (some ⟨w.heap.size + 1 + 1, 0, none⟩) 0 0) [] := by
    refine ⟨?_, ?_⟩
    · rw [hW1]
      have h := owns_empty (w.alloc (.cells #[.string s, vp, .int .i64 regs, .int .i64 words, vc] 25)) (B := w.heap.size + 1) 49 2 (by simp)
      rw [World.size_alloc] at h
      exact World.ownsRow.alloc h _
    · rw [hW1]
      have h := owns_empty ((w.alloc (.cells #[.string s, vp, .int .i64 regs, .int .i64 words, vc] 25)).alloc (.cells #[] 49)) (B := w.heap.size + 1) 49 2 (by simp)
      rw [World.size_alloc, World.size_alloc] at h
      exact h
  have hf1' := hf1
  obtain ⟨f0, f1, f2, f3, f4⟩ := hf1'
  have HW1 := Lib.hid hW1
  have H1 := Lib.hid (And.intro hb1 (And.intro hf1 (And.intro hs1 hS1)))
  have hlt1 : w.heap.size < W1.heap.size := by omega
  clear hc hlen hW1 hb1 hs1 hf1 hS1
  go_enter Tryd.func25, Tryd.ntmps25
  go_wp2_with (rw [← HW1.out])
  refine (redges_any s vp regs words vc code _ Hlen.out (SliceIn.later Hc.out H1.out.1)).mono ?_
  rintro e wE ⟨ve, rfl, hve, hbE⟩
  obtain ⟨nE, hnE⟩ : ∃ nE, nE = (edgesL code).length := ⟨_, rfl⟩
  have hnE9 : nE ≤ 2048 := by rw [hnE]; exact edgesL_le code
  obtain ⟨ae, ce, rfl, hae⟩ : ∃ ae ce, ve = .slice ae nE ce ∧ (0 < nE → ∃ g, ae = some ⟨g, 0, none⟩ ∧ g < wE.heap.size) := by
    rcases hve.form with ⟨h, h2⟩ | ⟨g, c, h, _, h3, _⟩
    · exact ⟨none, 0, by rw [h, hnE, h2]; rfl, by rw [hnE, h2]; simp⟩
    · exact ⟨_, c, by rw [h, hnE], fun _ => ⟨g, rfl, h3⟩⟩
  have hsE : w.heap.size + 3 ≤ wE.heap.size := by have := hbE.size; have := H1.out.2.2.1; omega
  have hSE : SP code wE wE (w.heap.size + 1) 0 (.slice ae nE ce) (.slice (some ⟨w.heap.size + 1, 0, none⟩) 0 0) (.slice (some ⟨w.heap.size + 1 + 1, 0, none⟩) 0 0) := by
    have h3 := H1.out.2.2.1
    refine ⟨ownsRow_mono hve (by omega), ownsRow_below H1.out.2.2.2.1 hbE (Nat.le_refl _), ownsRow_below H1.out.2.2.2.2 hbE (Nat.le_refl _), fun k h1 h2 => ?_, fun k h1 => ?_, Below.refl _ _⟩
    · simp [Value.ownBlock] at h1 h2; omega
    · have := (World.ownsRow.lt hve k h1).1
      refine ⟨fun h2 => ?_, fun h2 => ?_⟩ <;> (simp [Value.ownBlock] at h2; omega)
  have HnE := Lib.hid hnE
  have HSE := Lib.hid hSE
  have HfE := Lib.hid (H1.out.2.1.later hbE (by omega))
  have HbE : Hid (Below w.heap.size w wE) := H1.out.1.trans (hbE.mono H1.out.1.size)
  clear hve hnE hSE hbE f0 f1 f2 f3 f4 hlt1
  go_wp2_with fail
  go_loopg [4, 5, 7, 8] nE (fun g va vb iv _ wx => ∃ i : Nat, g = nE - i ∧ iv = .int .i64 (i : Int) ∧ i ≤ nE ∧ SP code wE wx (w.heap.size + 1) i (.slice ae nE ce) va vb)
  case atStart => exact ⟨0, rfl, rfl, Nat.zero_le _, HSE.out⟩
  case round =>
    obtain ⟨i, hg, rfl, hi, hS⟩ := hrel
    have Hg := Lib.hid hg
    have HS := Lib.hid hS
    have hsr : w.heap.size + 3 ≤ wr.heap.size := by have := hS.below.size; omega
    clear hg hS
    by_cases hin : i < nE
    · obtain ⟨ge, rfl, hge⟩ := hae (by omega)
      obtain ⟨⟨eu, ev⟩, hee⟩ : ∃ x, (edgesL code)[i]? = some x := ⟨_, List.getElem?_eq_getElem (by rw [← HnE.out]; exact hin)⟩
      have hem := List.mem_of_getElem? hee
      obtain ⟨u1, u2⟩ := edge_in hem
      obtain ⟨u, rfl⟩ : ∃ a : Nat, eu = a := ⟨eu.toNat, by have := u1.lo; omega⟩
      obtain ⟨v, rfl⟩ : ∃ a : Nat, ev = a := ⟨ev.toNat, by have := u2.lo; omega⟩
      have hcs : ∀ W, EdgesIn W (.slice (some ⟨ge, 0, none⟩) nE ce) (edgesL code) → W.cell? ⟨ge, i * 2, none⟩ = some (.int .i64 u) ∧ W.cell? ⟨ge, i * 2 + 1, none⟩ = some (.int .i64 v) := fun W h => by
        obtain ⟨b, off, h1, h2, h3, h4⟩ := EdgesIn.at' h hee
        cases h1
        rw [Nat.zero_add] at h3 h4
        exact ⟨h3, h4⟩
      obtain ⟨e1, e2⟩ := hcs wr (SliceIn.of_owns HS.out.all)
      have hbr : Below w.heap.size w wr := HbE.out.trans (HS.out.below.mono (by omega))
      have hfr : FnAt wr w.heap.size s vp regs words vc := by
        have h := HfE.out
        have hb := HS.out.below
        exact ⟨(hb.cell (p := ⟨w.heap.size, 0, none⟩) (Nat.lt_succ_self _)).trans h.c0, (hb.cell (p := ⟨w.heap.size, 1, none⟩) (Nat.lt_succ_self _)).trans h.c1, (hb.cell (p := ⟨w.heap.size, 2, none⟩) (Nat.lt_succ_self _)).trans h.c2, (hb.cell (p := ⟨w.heap.size, 3, none⟩) (Nat.lt_succ_self _)).trans h.c3, (hb.cell (p := ⟨w.heap.size, 4, none⟩) (Nat.lt_succ_self _)).trans h.c4⟩
      have hbk := back_without hem
      have Hcode : Hid (CodeIn wr.drew vc code) := SliceIn.later Hc.out hbr.drew
      have Hbr := Lib.hid hbr
      have Hbk := Lib.hid hbk
      have Hee := Lib.hid hee
      have Hcs := Lib.hid hcs
      have Hem := Lib.hid hem
      obtain ⟨f0, f1, f2, f3, f4⟩ := hfr
      clear hbk hee hcs hbr hem u1 u2
      go_upto_region 7 with (fail)
      go_still_tail 6, (by kernel_rfl)
      change wpList _ _ _ _ _ wr.drew
      go_wp2_with fail
      refine (without_any s vp regs words vc code (v : Int) _ Hlen.out Hcode.out).mono ?_
      rintro e w2 ⟨vw, rfl, hvw, hbw⟩
      obtain ⟨rl, hrl⟩ : ∃ rl, rl = reachL code (v : Int) := ⟨_, rfl⟩
      rw [← hrl] at hvw
      have hul : u < rl.length := by
        obtain ⟨_, h2, _, _, _, h6, _⟩ := edgesL_mem Hem.out
        rw [hrl, reachL_length, if_pos h6]
        simp only at h2
        omega
      obtain ⟨gw, cw, rfl⟩ : ∃ g c, vw = .slice (some ⟨g, 0, none⟩) rl.length c := by
        rcases hvw.form with ⟨_, h2⟩ | ⟨g, c, h, _⟩
        · rw [h2] at hul; simp at hul
        · exact ⟨g, c, h⟩
      have hcu := OwnBools.cell hvw (k := u) hul
      obtain ⟨bq, hbq⟩ : ∃ bq, bq = rl.getD u false := ⟨_, rfl⟩
      rw [← hbq] at hcu
      have hK : isBack code ((u : Int), (v : Int)) = !bq := by rw [Hbk.out, hbq, hrl]
      obtain ⟨nl, hnl⟩ : ∃ nl, nl = rl.length := ⟨_, rfl⟩
      rw [← hnl] at hul ⊢
      have hb2 : Below wr.heap.size wr w2 := (Below.refl _ _).drew.trans hbw
      have hS2 := HS.out.later hb2 (by omega)
      obtain ⟨e1, e2⟩ := Hcs.out w2 (SliceIn.of_owns hS2.all)
      have hlb : (aheadIn code ((edgesL code).take i)).length ≤ 1000000000000 ∧ (backsIn code ((edgesL code).take i)).length ≤ 1000000000000 ∧ w.heap.size + 1 ≤ w2.heap.size := by
        have h1 := List.length_filter_le (fun x => !isBack code x) ((edgesL code).take i)
        have h2 := List.length_take_le i (edgesL code)
        have h3 := List.length_filter_le (isBack code) ((edgesL code).take i)
        have h4 := HnE.out
        have h5 := hb2.size
        unfold aheadIn backsIn
        omega
      have HS2 := Lib.hid hS2
      have Hlb := Lib.hid hlb
      have HK := Lib.hid hK
      clear hrl hvw hbq hK hnl hb2 hS2 hlb hbw f0 f1 f2 f3 f4
      cases bq
      · go_wp2_with (at_builtin; refine append_edge rfl _ _ rfl (w.heap.size + 1) _ _ rfl HS2.out.backs _ _ rfl Hlb.out.2.1 Hlb.out.2.2 ?_)
        intro v' w' ho hgr hfr hbb
        have HN := Lib.hid (HS2.out.back Hee.out HK.out ho hgr hfr (hbb _ _ HS2.out.below (Nat.le_refl _)))
        clear ho hgr hfr hbb
        go_wp2_with fail
        go_roundg (nE - (i + 1))
        case measure => have := Hg.out; omega
        case rel => exact ⟨i + 1, rfl, by go_num, hin, HN.out⟩
      · go_wp2_with (at_builtin; refine append_edge rfl _ _ rfl (w.heap.size + 1) _ _ rfl HS2.out.ahead _ _ rfl Hlb.out.1 Hlb.out.2.2 ?_)
        intro v' w' ho hgr hfr hbb
        have HN := Lib.hid (HS2.out.fore Hee.out HK.out ho hgr hfr (hbb _ _ HS2.out.below (Nat.le_refl _)))
        clear ho hgr hfr hbb
        go_wp2_with fail
        go_roundg (nE - (i + 1))
        case measure => have := Hg.out; omega
        case rel => exact ⟨i + 1, rfl, by go_num, hin, HN.out⟩
    · obtain rfl : i = nE := by omega
      have e1 : (edgesL code).take i = edgesL code := by rw [HnE.out, List.take_length]
      have h1 := HS.out.ahead
      have h2 := HS.out.backs
      rw [e1] at h1 h2
      have HH := Lib.hid (And.intro h1 h2)
      have Hbf : Hid (Below w.heap.size w wr) := HbE.out.trans (HS.out.below.mono (by omega))
      clear e1 h1 h2
      go_wp2_with fail
      go_ret2
      exact ⟨_, _, rfl, ownsRow_mono HH.out.1 (by omega), ownsRow_mono HH.out.2 (by omega), Hbf.out⟩
end Go.Proofs.YtapjdndcnenadaaDoor
