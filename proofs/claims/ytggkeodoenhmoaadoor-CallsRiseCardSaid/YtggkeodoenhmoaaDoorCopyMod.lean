/- Copy of the reference: the same module in memory of its own. -/
import Derived.Test.YtggkeodoenhmoaaDoorMod
namespace Go.Proofs.YtggkeodoenhmoaaDoor
open Go.RowKit

theorem Tryd.infoI64 : (Tryd.prog.info? 2).map (fun i => (i.zero, i.size, i.bytes)) = some (some (.int .i64 0), 1, 8) := by kernel_rfl
theorem Tryd.infoFunc : (Tryd.prog.info? 42).map (fun i => (i.zero, i.size, i.bytes)) = some (some (.agg #[.string ⟨#[]⟩, .slice none 0 0, .int .i64 0, .int .i64 0, .slice none 0 0]), 5, 80) := by kernel_rfl
/-- A module by value. -/
structure ModIn (w : World) (vt vf : Value) (ts : List Int) (F : List FR) : Prop where
  thr : IntsIn w vt ts
  funcs : FuncsIn w vf F
  nThr : ts.length * 8 ≤ 140737488351232
theorem ModIn.later {w w' : World} {vt vf : Value} {ts : List Int} {F : List FR} (h : ModIn w vt vf ts F) (hb : Below w.heap.size w w') : ModIn w' vt vf ts F := ⟨SliceIn.later h.thr hb, h.funcs.later hb, h.nThr⟩
/-- What a function holds, wherever it lies. -/
def FR.plain (x : FR) : ByteArray × Int × Int × List Span × List Ins := (x.s, x.regs, x.words, x.params, x.code)
def RetMod (ts : List Int) (F : List FR) (w : World) (e : Ending) (w' : World) : Prop :=
  ∃ vt vf F', e = .returned (modV vt vf) ∧ ModIn w' vt vf ts F' ∧ F'.map FR.plain = F.map FR.plain ∧ Below w.heap.size w w'

theorem take_snocF {α : Type} {l : List α} {k : Nat} {x : α} (h : l[k]? = some x) : l.take (k + 1) = l.take k ++ [x] := by
  obtain ⟨hk, e⟩ := List.getElem?_eq_some_iff.1 h
  rw [List.take_succ_eq_append_getElem hk, e]
theorem SliceIn.kept_at {w w' : World} {v : Value} {n size : Nat} {cs : List Value} (h : SliceIn w v n size cs) (hk : ∀ b, v.ownBlock = some b → w'.heap[b]? = w.heap[b]?) (hs : w.heap.size ≤ w'.heap.size) : SliceIn w' v n size cs := by
  obtain ⟨h1, a, cap, rfl, h2, h3, h4, h5⟩ := h
  refine ⟨h1, a, cap, rfl, h2, h3, h4, fun h0 => ?_⟩
  obtain ⟨b, off, rfl, hlt, hc⟩ := h5 h0
  exact ⟨b, off, rfl, Nat.lt_of_lt_of_le hlt hs, fun j u hu => (World.cell?_of_block (w := w) (hk b rfl)).trans (hc j u hu)⟩
/-- The blocks of a function's lists. -/
def FR.has (x : FR) (b : Nat) : Prop := x.vp.ownBlock = some b ∨ x.vc.ownBlock = some b
theorem FR.OK.kept_at {w w' : World} {x : FR} (h : x.OK w) (hk : ∀ b, x.has b → w'.heap[b]? = w.heap[b]?) (hs : w.heap.size ≤ w'.heap.size) : x.OK w' :=
  ⟨SliceIn.kept_at h.hcode (fun b hb => hk b (.inr hb)) hs, SliceIn.kept_at h.hparams (fun b hb => hk b (.inl hb)) hs, h.nCode, h.nParams⟩
/-- The functions G lie above block b3, in blocks that are there, apart from the list v. -/
def ApartG (w : World) (b3 : Nat) (v : Value) (G : List FR) : Prop := ∀ x ∈ G, ∀ b, x.has b → b3 < b ∧ b < w.heap.size ∧ v.ownBlock ≠ some b

set_option maxRecDepth 100000 in
set_option maxHeartbeats 2000000 in
theorem copy_any (vt vf : Value) (ts : List Int) (F : List FR) (w : World) (hm : ModIn w vt vf ts F) :
    Calls Tryd.prog 6 #[modV vt vf] w (RetMod ts F w) := by
  obtain ⟨-, af, cf, hvf, -⟩ := hm.funcs.row
  obtain ⟨-, at', ct, hvt, -⟩ := hm.thr
  subst hvf; subst hvt
  obtain ⟨nF, hnF⟩ : ∃ nF, nF = F.length := ⟨_, rfl⟩
  obtain ⟨nT, hnT⟩ : ∃ nT, nT = ts.length := ⟨_, rfl⟩
  have hnf := hm.funcs.nFuncs
  rw [← hnF] at hnf ⊢
  rw [← hnT]
  obtain ⟨W0, hW0⟩ : ∃ W0, W0 = ((w.alloc (.cells #[.slice at' nT ct, .slice af nF cf] 25)).alloc (.cells #[.slice none 0 0, .slice none 0 0] 25)) := ⟨_, rfl⟩
  have hs0 : W0.heap.size = w.heap.size + 2 := by rw [hW0]; simp
  have hb0 : Below w.heap.size w W0 := by rw [hW0]; exact ((Below.refl _ _).alloc (Nat.le_refl _) _).alloc (by (try simp only [World.size_alloc]); (try simp only [size_set]); omega) _
  have hm0 : ModAt W0 w.heap.size (.slice at' nT ct) (.slice af nF cf) := by rw [hW0]; exact (ModAt.box w _ _ _).later ((Below.refl (w.heap.size + 1) _).alloc (by (try simp only [World.size_alloc]); (try simp only [size_set]); omega) _) (Nat.lt_succ_self _)
  have hr0 : ModAt W0 (w.heap.size + 1) (.slice none 0 0) (.slice none 0 0) := by
    rw [hW0]
    have := ModAt.box (w.alloc (.cells #[.slice at' nT ct, .slice af nF cf] 25)) (.slice none 0 0) (.slice none 0 0) 25
    simpa using this
  have hz0 : ∀ j, W0.frozen? ⟨w.heap.size + 1, j, none⟩ = false := fun j => by rw [hW0, World.frozen?_alloc_at _ _ _ _ (by simp)]
  have hbb : Below (w.heap.size + 2) W0 (W0.alloc (.cells #[] 2)) := (Below.refl _ _).alloc (by omega) _
  have hA : (W0.alloc (.cells #[] 2)).ownsRow (w.heap.size + 2) 2 1 (.slice (some ⟨w.heap.size + 2, 0, none⟩) 0 0) 0 [] := by
    have := owns_empty W0 (B := w.heap.size + 2) 2 1 (by omega)
    rwa [hs0] at this
  have hT : IntsIn (W0.alloc (.cells #[] 2)) (.slice at' nT ct) ts := by rw [hnT]; exact SliceIn.later hm.thr (hb0.alloc (by omega) _)
  have hl : 0 + nT ≤ maxLen ∧ (0 + nT) * 8 ≤ 140737488355328 := by have := hm.nThr; rw [← hnT] at this; unfold maxLen; exact ⟨by omega, by omega⟩
  have HW0 := Lib.hid hW0
  have HA := Lib.hid hA
  have HT := Lib.hid hT
  have Hl := Lib.hid hl
  have H0 := Lib.hid (And.intro hs0 (And.intro hb0 (And.intro hm0 (And.intro hr0 (And.intro hz0 hbb)))))
  have HsB : Hid (w.heap.size + 2 ≤ (W0.alloc (.cells #[] 2)).heap.size) := by show _ ≤ _; simp; omega
  have Hm := Lib.hid hm
  have HnF := Lib.hid hnF
  have HnT := Lib.hid hnT
  clear hm hnF hnT hW0 hA hT hl hs0 hb0 hm0 hr0 hz0 hbb
  go_enter Tryd.func6, Tryd.ntmps6
  go_wp2_with (at_builtin; rw [← HW0.out]; refine append_gen rfl _ _ 22 rfl Tryd.underlying22 Tryd.infoI64 rfl (by decide) (w.heap.size + 2) _ 0 [] rfl HA.out _ nT (intVs ts) rfl (by have := HT.out; unfold IntsIn at this; rwa [← HnT.out] at this) ?_ Hl.out.1 Hl.out.2 HsB.out ?_)
  · intro u hu; simp [intVs] at hu; obtain ⟨_, _, rfl⟩ := hu; rfl
  intro v3 w3 ho3 hg3 hf3 hb3
  obtain ⟨hs0, hb0, hm0, hr0, hz0, hbb⟩ := H0.out
  have hbS : Below (w.heap.size + 2) W0 w3 := hb3 _ _ hbb (Nat.le_refl _)
  obtain ⟨a3, l3, e3, rfl⟩ := row_form ho3
  have hn3 : l3 = nT := by rcases ho3.2 with ⟨h, h2⟩ | ⟨_, _, _, h, _⟩ <;> cases h <;> first | rfl | exact h2.symm
  subst hn3
  have hsz3 : w.heap.size + 2 ≤ w3.heap.size := by have := hbS.size; omega
  have H3 : Hid (Below w.heap.size w w3 ∧ ModAt w3 w.heap.size (.slice at' l3 ct) (.slice af nF cf) ∧ ModAt w3 (w.heap.size + 1) (.slice none 0 0) (.slice none 0 0) ∧ (∀ j, w3.frozen? ⟨w.heap.size + 1, j, none⟩ = false) ∧ IntsIn w3 (.slice a3 l3 e3) ts ∧ ∀ b, (Value.slice a3 l3 e3).ownBlock = some b → w.heap.size + 2 ≤ b ∧ b < w3.heap.size) := by
    refine ⟨hb0.trans (hbS.mono (by omega)), hm0.later hbS (by omega), hr0.later hbS (by omega), fun j => (hbS.frozen (p := ⟨w.heap.size + 1, j, none⟩) (by show w.heap.size + 1 < _; omega)).trans (hz0 j), ?_, fun b hb => World.ownsRow.lt ho3 b hb⟩
    unfold IntsIn
    rw [← HnT.out]
    exact SliceIn.of_owns (by simpa using ho3)
  obtain ⟨b3, hb3e⟩ : ∃ b3, b3 = w3.heap.size := ⟨_, rfl⟩
  have hm4 : ModAt (w3.alloc (.cells #[.slice a3 l3 e3, .slice none 0 0] 25)) b3 (.slice a3 l3 e3) (.slice none 0 0) := by rw [hb3e]; exact ModAt.box w3 _ _ _
  have hz4 : ∀ j, (w3.alloc (.cells #[.slice a3 l3 e3, .slice none 0 0] 25)).frozen? ⟨b3, j, none⟩ = false := fun j => by rw [hb3e, World.frozen?_alloc_at _ _ _ _ rfl]
  have hb4 : Below b3 w3 (w3.alloc (.cells #[.slice a3 l3 e3, .slice none 0 0] 25)) := (Below.refl _ _).alloc (by omega) _
  have H4 := Lib.hid (And.intro hm4 (And.intro hz4 hb4))
  have hszb : w.heap.size + 2 ≤ b3 := by omega
  have Hb3 := Lib.hid hb3e
  clear hs0 hb0 hm0 hr0 hz0 hbb hbS ho3 hg3 hf3 hb3 HA HT HsB Hl H0 HW0 hm4 hz4 hb4
  go_wp2_with fail
  rw [← Hb3.out]
  clear hb3e
  go_loopw [4] (fun i wr => ∃ (k : Nat) (G : List FR) (v : Value), k ≤ nF ∧ i = .int .i64 k ∧ ModAt wr b3 (.slice a3 l3 e3) v ∧ (∀ j, wr.frozen? ⟨b3, j, none⟩ = false) ∧ wr.ownsRow (b3 + 1) 42 5 v k (G.flatMap FR.cells) ∧ G.length = k ∧ (∀ x ∈ G, x.OK wr) ∧
    G.map FR.plain = (F.take k).map FR.plain ∧ Below b3 w3 wr ∧ b3 < wr.heap.size ∧ ApartG wr b3 v G) (fun i _ => nF - (intOf i).toNat)
  case atStart =>
    exact ⟨0, [], _, Nat.zero_le _, rfl, H4.out.1, H4.out.2.1, World.ownsRow_nil _ _ _ _, rfl, by simp, by simp, H4.out.2.2, by have := Hb3.out; simp; omega, by intro x hx; simp at hx⟩
  case round =>
    obtain ⟨k, G, v, hk, rfl, hbox, hfz, hown, hGl, hG, hGp, hbw, hsz, hap⟩ := hrel
    have hW : Below w.heap.size w wr := H3.out.1.trans (hbw.mono (by omega))
    obtain ⟨m0, m1⟩ := H3.out.2.1.later hbw (by omega)
    obtain ⟨a5, l5, e5, rfl⟩ := row_form hown
    obtain ⟨x0, x1⟩ := hbox
    by_cases hkn : k < nF
    · obtain ⟨x, hx⟩ : ∃ x, F[k]? = some x := ⟨F[k]'(by rw [← HnF.out]; exact hkn), List.getElem?_eq_getElem _⟩
      obtain ⟨-, b, off, rfl, hbw0, p0, p1, p2, p3, p4⟩ := (Hm.out.funcs.later hW).at hx
      have hok := (Hm.out.funcs.later hW).each x (List.mem_of_getElem? hx)
      obtain ⟨s, vp, regs, words, vc, params, code⟩ := x
      obtain ⟨hc, hp, hlc, hlp⟩ := hok
      simp only at *
      have Hc := Lib.hid (And.intro hc (And.intro hp (And.intro hlc hlp)))
      have Hr := Lib.hid (And.intro hown (And.intro hGl (And.intro hG (And.intro hGp (And.intro hbw (And.intro hW hap))))))
      have Hx := Lib.hid hx
      have Hf := Lib.hid (And.intro x0 (And.intro x1 hfz))
      obtain ⟨-, ap, cp, rfl, -⟩ := hp
      obtain ⟨-, ac, cc, rfl, -⟩ := hc
      have hkm : k * 80 ≤ 140737488351232 := by omega
      clear hlc hlp hown hGl hG hGp hbw hW hx x0 x1 hfz hap
      go_wp2_with fail
      refine (copyFunc_any s _ regs words _ params code _ Hc.out.2.2.1 Hc.out.2.2.2 Hc.out.1 Hc.out.2.1).mono ?_
      rintro e w5 ⟨vp5, vc5, rfl, hp5, hc5, hne, hb5⟩
      obtain ⟨ap5, lp5, cp5, rfl⟩ := row_form hp5
      obtain ⟨ac5, lc5, cc5, rfl⟩ := row_form hc5
      obtain ⟨hown, hGl, hG, hGp, hbw, hW, hap⟩ := Hr.out
      obtain ⟨x0, x1, hfz⟩ := Hf.out
      have hsz5 : wr.heap.size ≤ w5.heap.size := hb5.size
      have q0 : w5.cell? ⟨b3, 0, none⟩ = some (.slice a3 l3 e3) := (hb5.cell (p := ⟨b3, 0, none⟩) hsz).trans x0
      have q1 : w5.cell? ⟨b3, 1, none⟩ = some (.slice a5 l5 e5) := (hb5.cell (p := ⟨b3, 1, none⟩) hsz).trans x1
      have q2 : ∀ j, w5.frozen? ⟨b3, j, none⟩ = false := fun j => (hb5.frozen (p := ⟨b3, j, none⟩) hsz).trans (hfz j)
      have hb35 : b3 < w5.heap.size := by omega
      have hyb : ∀ b, FR.has ⟨s, .slice ap5 lp5 cp5, regs, words, .slice ac5 lc5 cc5, params, code⟩ b → wr.heap.size ≤ b ∧ b < w5.heap.size := fun b hb => by
        rcases hb with hb | hb
        · exact World.ownsRow.lt hp5 b hb
        · exact World.ownsRow.lt hc5 b hb
      have hy : FR.OK w5 ⟨s, .slice ap5 lp5 cp5, regs, words, .slice ac5 lc5 cc5, params, code⟩ := ⟨SliceIn.of_owns hc5, SliceIn.of_owns hp5, Hc.out.2.2.1, Hc.out.2.2.2⟩
      have hown5 : w5.ownsRow (b3 + 1) 42 5 (.slice a5 l5 e5) k (G.flatMap FR.cells) := ownsRow_below hown hb5 (Nat.le_refl _)
      obtain ⟨W6, hW6⟩ : ∃ W6, W6 = w5.alloc (.cells #[.string s, .slice ap5 lp5 cp5, .int .i64 regs, .int .i64 words, .slice ac5 lc5 cc5] 42) := ⟨_, rfl⟩
      have hb6 : Below w5.heap.size w5 W6 := by rw [hW6]; exact (Below.refl _ _).alloc (Nat.le_refl _) _
      have hown6 : W6.ownsRow (b3 + 1) 42 5 (.slice a5 l5 e5) k (G.flatMap FR.cells) := by rw [hW6]; exact World.ownsRow.alloc hown5 _
      have hs6 : W6.heap.size = w5.heap.size + 1 := by rw [hW6]; simp
      have hown7 : (W6.alloc (.cells #[.string s, .slice ap5 lp5 cp5, .int .i64 regs, .int .i64 words, .slice ac5 lc5 cc5] 42)).ownsRow (b3 + 1) 42 5 (.slice a5 l5 e5) k (G.flatMap FR.cells) := World.ownsRow.alloc hown6 _
      have hsrc : SliceIn (W6.alloc (.cells #[.string s, .slice ap5 lp5 cp5, .int .i64 regs, .int .i64 words, .slice ac5 lc5 cc5] 42)) (.slice (some ⟨w5.heap.size + 1, 0, none⟩) 1 1) 1 5 (FR.cells ⟨s, .slice ap5 lp5 cp5, regs, words, .slice ac5 lc5 cc5, params, code⟩) := by
        have := sliceIn_new W6 (FR.cells ⟨s, .slice ap5 lp5 cp5, regs, words, .slice ac5 lc5 cc5, params, code⟩) 1 5 42 rfl (by unfold maxLen; omega)
        rw [hs6] at this
        exact this
      have hbA : Below (b3 + 1) w5 (W6.alloc (.cells #[.string s, .slice ap5 lp5 cp5, .int .i64 regs, .int .i64 words, .slice ac5 lc5 cc5] 42)) := (hb6.mono (by omega)).alloc (by omega) _
      have hone : ∀ u ∈ FR.cells ⟨s, .slice ap5 lp5 cp5, regs, words, .slice ac5 lc5 cc5, params, code⟩, u.oneCell' = true := by
        intro u hu; simp [FR.cells] at hu; rcases hu with rfl | rfl | rfl | rfl | rfl <;> rfl
      have HsA : Hid (b3 + 1 ≤ (W6.alloc (.cells #[.string s, .slice ap5 lp5 cp5, .int .i64 regs, .int .i64 words, .slice ac5 lc5 cc5] 42)).heap.size) := by show _ ≤ _; simp; omega
      have Hll : Hid (k + 1 ≤ maxLen ∧ (k + 1) * 80 ≤ 140737488355328) := by show _ ∧ _; unfold maxLen; exact ⟨by omega, by omega⟩
      have Hsrc := Lib.hid hsrc
      have Hone := Lib.hid hone
      have Hown7 := Lib.hid hown7
      have HbA := Lib.hid hbA
      have HW6 := Lib.hid hW6
      have Hy := Lib.hid hy
      have Hyb := Lib.hid hyb
      have H5 : Hid (Below wr.heap.size wr w5) := hb5
      have Hq := Lib.hid (And.intro q0 (And.intro q1 q2))
      clear hown hGl hG hGp hbw hW x0 x1 hfz hb5 hp5 hc5 hne hy hyb hap hown5 hW6 hb6 hown6 hs6 hown7 hsrc hbA hone q2
      go_wp2_with (at_builtin; rw [← HW6.out]; (refine append_gen rfl _ _ 23 rfl Tryd.underlying23 Tryd.infoFunc rfl (by decide) (b3 + 1) _ k _ rfl Hown7.out _ 1 _ rfl Hsrc.out Hone.out Hll.out.1 Hll.out.2 HsA.out ?_))
      intro v8 w8 ho8 hg8 hf8 hb8
      have hbS := hb8 _ _ HbA.out (Nat.le_refl _)
      obtain ⟨a8, l8, e8, rfl⟩ := row_form ho8
      have hn8 : l8 = k + 1 := by rcases ho8.2 with ⟨h, h2⟩ | ⟨_, _, _, h, _⟩ <;> cases h <;> first | rfl | exact h2.symm
      subst hn8
      obtain ⟨q0, q1, q2⟩ := Hq.out
      have r0 : w8.cell? ⟨b3, 0, none⟩ = some (.slice a3 l3 e3) := (hbS.cell (p := ⟨b3, 0, none⟩) (Nat.lt_succ_self _)).trans q0
      have r1 : w8.cell? ⟨b3, 1, none⟩ = some (.slice a5 l5 e5) := (hbS.cell (p := ⟨b3, 1, none⟩) (Nat.lt_succ_self _)).trans q1
      have r2 : ∀ j, w8.frozen? ⟨b3, j, none⟩ = false := fun j => (hbS.frozen (p := ⟨b3, j, none⟩) (Nat.lt_succ_self _)).trans (q2 j)
      have r21 := r2 1
      obtain ⟨hown, hGl, hG, hGp, hbw, hW, hap⟩ := Hr.out
      have h57 : ∀ i, i < w5.heap.size → (W6.alloc (.cells #[.string s, .slice ap5 lp5 cp5, .int .i64 regs, .int .i64 words, .slice ac5 lc5 cc5] 42)).heap[i]? = w5.heap[i]? := fun i hi => by
        have h6 := HW6.out
        rw [Below.heap_alloc _ _ _ (by rw [h6]; simp; omega), h6, Below.heap_alloc _ _ _ hi]
      have hs7 : (W6.alloc (.cells #[.string s, .slice ap5 lp5 cp5, .int .i64 regs, .int .i64 words, .slice ac5 lc5 cc5] 42)).heap.size = w5.heap.size + 2 := by rw [HW6.out]; simp
      have hs8 : w5.heap.size + 2 ≤ w8.heap.size := by have := hg8.size; rw [hs7] at this; exact this
      have hap8 : ∀ x ∈ G ++ [(⟨s, .slice ap5 lp5 cp5, regs, words, .slice ac5 lc5 cc5, params, code⟩ : FR)], ∀ b, x.has b → b3 < b ∧ b < w5.heap.size ∧ (Value.slice a5 l5 e5).ownBlock ≠ some b := by
        intro x hx b hb
        rcases List.mem_append.1 hx with hx | hx
        · obtain ⟨h1, h2, h3⟩ := hap x hx b hb
          exact ⟨h1, by omega, h3⟩
        · simp at hx; subst hx
          have := Hyb.out b hb
          refine ⟨by omega, this.2, fun e => ?_⟩
          have := (World.ownsRow.lt hown b e).2
          omega
      have hap9 : ApartG (w8.setCell ⟨b3, 1, none⟩ (.slice a8 (k + 1) e8)) b3 (.slice a8 (k + 1) e8) (G ++ [(⟨s, .slice ap5 lp5 cp5, regs, words, .slice ac5 lc5 cc5, params, code⟩ : FR)]) := by
        intro x hx b hb
        obtain ⟨h1, h2, h3⟩ := hap8 x hx b hb
        exact ⟨h1, by rw [size_set]; omega, hf8 b (by rw [hs7]; omega) h3⟩
      have hkeep : ∀ x ∈ G ++ [(⟨s, .slice ap5 lp5 cp5, regs, words, .slice ac5 lc5 cc5, params, code⟩ : FR)], ∀ b, x.has b → (w8.setCell ⟨b3, 1, none⟩ (.slice a8 (k + 1) e8)).heap[b]? = w5.heap[b]? := by
        intro x hx b hb
        obtain ⟨h1, h2, h3⟩ := hap8 x hx b hb
        rw [Below.heap_setCell _ _ _ _ (by show b ≠ b3; omega), hg8.block b (by rw [hs7]; omega) (fun e => h3 e.symm), h57 b h2]
      have hOK : ∀ x ∈ G ++ [(⟨s, .slice ap5 lp5 cp5, regs, words, .slice ac5 lc5 cc5, params, code⟩ : FR)], x.OK (w8.setCell ⟨b3, 1, none⟩ (.slice a8 (k + 1) e8)) := by
        intro x hx
        have h5 : x.OK w5 := by
          rcases List.mem_append.1 hx with hx | hx
          · exact (hG x hx).later H5.out
          · simp at hx; subst hx; exact Hy.out
        exact h5.kept_at (hkeep x hx) (by rw [size_set]; omega)
      have HR : Hid (ModAt (w8.setCell ⟨b3, 1, none⟩ (.slice a8 (k + 1) e8)) b3 (.slice a3 l3 e3) (.slice a8 (k + 1) e8) ∧ (∀ j, (w8.setCell ⟨b3, 1, none⟩ (.slice a8 (k + 1) e8)).frozen? ⟨b3, j, none⟩ = false) ∧
          (w8.setCell ⟨b3, 1, none⟩ (.slice a8 (k + 1) e8)).ownsRow (b3 + 1) 42 5 (.slice a8 (k + 1) e8) (k + 1) ((G ++ [(⟨s, .slice ap5 lp5 cp5, regs, words, .slice ac5 lc5 cc5, params, code⟩ : FR)]).flatMap FR.cells) ∧
          (∀ x ∈ G ++ [(⟨s, .slice ap5 lp5 cp5, regs, words, .slice ac5 lc5 cc5, params, code⟩ : FR)], x.OK (w8.setCell ⟨b3, 1, none⟩ (.slice a8 (k + 1) e8))) ∧
          (G ++ [(⟨s, .slice ap5 lp5 cp5, regs, words, .slice ac5 lc5 cc5, params, code⟩ : FR)]).map FR.plain = (F.take (k + 1)).map FR.plain ∧ (G ++ [(⟨s, .slice ap5 lp5 cp5, regs, words, .slice ac5 lc5 cc5, params, code⟩ : FR)]).length = k + 1 ∧
          Below b3 w3 (w8.setCell ⟨b3, 1, none⟩ (.slice a8 (k + 1) e8)) ∧ b3 < (w8.setCell ⟨b3, 1, none⟩ (.slice a8 (k + 1) e8)).heap.size ∧
          ApartG (w8.setCell ⟨b3, 1, none⟩ (.slice a8 (k + 1) e8)) b3 (.slice a8 (k + 1) e8) (G ++ [(⟨s, .slice ap5 lp5 cp5, regs, words, .slice ac5 lc5 cc5, params, code⟩ : FR)])) := by
        refine ⟨⟨?_, ?_⟩, fun j => (World.frozen?_setCell _ _ _ _).trans (r2 j), ?_, hOK, ?_, by simp [hGl], ?_, by rw [size_set]; omega, hap9⟩
        · rw [World.cell?_setCell_other _ _ _ _ (by simp)]; exact r0
        · exact World.cell?_setCell_same' _ _ _ (by rw [r1]; rfl)
        · have := ownsRow_setCell_below (a := ⟨b3, 1, none⟩) ho8 (by show b3 < b3 + 1; omega) (.slice a8 (k + 1) e8)
          rw [List.flatMap_append]
          simpa using this
        · rw [take_snocF Hx.out, List.map_append, List.map_append, hGp]; rfl
        · exact ((hbw.trans ((H5.out.mono (by omega)))).trans (hbS.mono (by omega))).setCell (by show b3 ≤ b3; omega) _
      clear hbS ho8 hg8 hf8 hb8 q0 q1 q2 r2 hown hGl hG hGp hbw hW hap h57 hs7 hs8 hap8 hap9 hkeep hOK
      go_wp2_with fail
      go_roundw
      case rel =>
        obtain ⟨h1, h2, h3, h4, h5, h6, h7, h8, h9⟩ := HR.out
        exact ⟨k + 1, _, _, by omega, by go_num, h1, h2, h3, h6, h4, h5, h7, h8, h9⟩
      case measure => simp [intOf]; omega
    · have ek : k = nF := by omega
      subst ek
      obtain ⟨z0, z1⟩ := H3.out.2.2.1.later hbw (by omega)
      have z2 : ∀ j, wr.frozen? ⟨w.heap.size + 1, j, none⟩ = false := fun j => (hbw.frozen (p := ⟨w.heap.size + 1, j, none⟩) (by show w.heap.size + 1 < _; omega)).trans (H3.out.2.2.2.1 j)
      have z20 := z2 0
      have z21 := z2 1
      have hTr : IntsIn wr (.slice a3 l3 e3) ts := SliceIn.later H3.out.2.2.2.2.1 (by have := Hb3.out; rw [← this]; exact hbw)
      have hpl : G.map FR.plain = F.map FR.plain := by rw [hGp, List.take_of_length_le (Nat.le_of_eq HnF.out.symm)]
      have hsz3r : w3.heap.size ≤ wr.heap.size := hbw.size
      have Hr := Lib.hid (And.intro hown (And.intro hGl (And.intro hG (And.intro hpl (And.intro hW (And.intro hTr (And.intro hap hfz)))))))
      have Hz := Lib.hid (And.intro z0 (And.intro z1 z2))
      clear hown hGl hG hGp hpl hbw hW hTr hap hfz z2
      go_wp2_with fail
      obtain ⟨hown, hGl, hG, hpl, hW, hTr, hap, hfz⟩ := Hr.out
      obtain ⟨z0, z1, z2⟩ := Hz.out
      have hn5 : l5 = k := by rcases hown.2 with ⟨h, h2⟩ | ⟨_, _, _, h, _⟩ <;> cases h <;> first | rfl | exact h2.symm
      subst hn5
      obtain ⟨WF, hWF⟩ : ∃ WF : World, WF = (wr.setCell ⟨w.heap.size + 1, 0, none⟩ (.slice a3 l3 e3)).setCell ⟨w.heap.size + 1, 1, none⟩ (.slice a5 l5 e5) := ⟨_, rfl⟩
      rw [← hWF]
      have e0 : WF.cell? ⟨w.heap.size + 1, 0, none⟩ = some (.slice a3 l3 e3) := by
        rw [hWF, World.cell?_setCell_other _ _ _ _ (by simp)]
        exact World.cell?_setCell_same' _ _ _ (by rw [z0]; rfl)
      have e1 : WF.cell? ⟨w.heap.size + 1, 1, none⟩ = some (.slice a5 l5 e5) := by
        rw [hWF]
        exact World.cell?_setCell_same' _ _ _ (by rw [World.cell?_setCell_other _ _ _ _ (by simp), z1]; rfl)
      have hsF : WF.heap.size = wr.heap.size := by rw [hWF, size_set, size_set]
      have hoF : WF.ownsRow (b3 + 1) 42 5 (.slice a5 l5 e5) l5 (G.flatMap FR.cells) := by
        rw [hWF]
        exact ownsRow_setCell_below (ownsRow_setCell_below hown (by show w.heap.size + 1 < _; omega) _) (by show w.heap.size + 1 < _; omega) _
      have hkF : ∀ b, w.heap.size + 1 < b → WF.heap[b]? = wr.heap[b]? := fun b hb => by
        rw [hWF, Below.heap_setCell _ _ _ _ (by show b ≠ w.heap.size + 1; omega), Below.heap_setCell _ _ _ _ (by show b ≠ w.heap.size + 1; omega)]
      have hGF : ∀ x ∈ G, x.OK WF := fun x hx => (hG x hx).kept_at (fun b hb => hkF b (by have := (hap x hx b hb).1; omega)) (by omega)
      have hTF : IntsIn WF (.slice a3 l3 e3) ts := SliceIn.kept_at hTr (fun b hb => hkF b (by have := (H3.out.2.2.2.2.2 b hb).1; omega)) (by omega)
      have hbF : Below w.heap.size w WF := by rw [hWF]; exact (hW.setCell (by show w.heap.size ≤ w.heap.size + 1; omega) _).setCell (by show w.heap.size ≤ w.heap.size + 1; omega) _
      have hmF : ModIn WF (.slice a3 l3 e3) (.slice a5 l5 e5) ts G := ⟨hTF, ⟨by rw [hGl]; exact SliceIn.of_owns hoF, hGF, by rw [hGl]; exact hnf⟩, Hm.out.nThr⟩
      clear hWF
      exact bodyPost_ret (v := modV (.slice a3 l3 e3) (.slice a5 l5 e5)) (by simp [results, Tryd.results6, go_sem, e0, e1]) rfl ⟨_, _, G, rfl, hmF, hpl, hbF⟩
end Go.Proofs.YtggkeodoenhmoaaDoor
