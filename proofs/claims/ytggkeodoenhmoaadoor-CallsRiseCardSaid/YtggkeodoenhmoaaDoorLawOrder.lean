/- The statement CallsOrder's walk: of every module it answers true and leaves what was there. -/
import Derived.Test.YtggkeodoenhmoaaDoorLawOf
import Derived.Test.YtggkeodoenhmoaaDoorROrder
namespace Go.Proofs.YtggkeodoenhmoaaDoor
open Go.RowKit

theorem rorder_any (vt vf : Value) (F : List FR) (w : World) (hF : FuncsIn w vf F) : Calls Tryd.prog 13 #[modV vt vf] w (RetOrder F w) := by
  by_cases h : F.length ≤ 32
  · exact rorder_in vt vf F w hF h
  · exact rorder_many vt vf F w hF (by omega)

theorem ne_fault (w : World) (a b c : Int) : (Go.binOp .neq 35 (.agg #[.int .i64 a, .int .i64 b, .int .i64 c]) (.agg #[.int .i64 a, .int .i64 b, .int .i64 c])).run Tryd.prog w = .ok (.bool false) w := by
  simp [go_sem, Tryd.underlying35, Tryd.underlying33, Tryd.underlying3]

structure FAt (w : World) (k : Nat) (E f a : Int) : Prop where
  c0 : w.cell? ⟨k, 0, none⟩ = some (.int .i64 E)
  c1 : w.cell? ⟨k, 1, none⟩ = some (.int .i64 f)
  c2 : w.cell? ⟨k, 2, none⟩ = some (.int .i64 a)
theorem FAt.later {w w' : World} {k B : Nat} {E f a : Int} (h : FAt w k E f a) (hb : Below B w w') (hk : k < B) : FAt w' k E f a := ⟨(hb.cell hk).trans h.c0, (hb.cell hk).trans h.c1, (hb.cell hk).trans h.c2⟩
theorem FAt.box (w : World) (E f a : Int) (t : TypeId) : FAt (w.alloc (.cells #[.int .i64 E, .int .i64 f, .int .i64 a] t)) w.heap.size E f a :=
  ⟨World.cell?_alloc_at _ _ _ _ rfl, World.cell?_alloc_at _ _ _ _ rfl, World.cell?_alloc_at _ _ _ _ rfl⟩

set_option maxRecDepth 100000 in
set_option maxHeartbeats 4000000 in
theorem lawOrder_any (vt vf : Value) (ts : List Int) (F : List FR) (w : World) (hm : ModIn w vt vf ts F) (hw : WordsIn w) :
    Calls Tryd.prog 4 #[modV vt vf] w (Gives (.bool true) w) := by
  obtain ⟨-, af, cf, hvf, -⟩ := hm.funcs.row
  obtain ⟨-, at', ct, hvt, -⟩ := hm.thr
  subst hvf; subst hvt
  have hm0 := hm
  obtain ⟨nF, hnF⟩ : ∃ nF, nF = F.length := ⟨_, rfl⟩
  obtain ⟨nT, hnT⟩ : ∃ nT, nT = ts.length := ⟨_, rfl⟩
  rw [← hnF, ← hnT] at hm0 ⊢
  have hb0 : Below w.heap.size w (w.alloc (.cells #[.slice at' nT ct, .slice af nF cf] 25)) := (Below.refl _ _).alloc (Nat.le_refl _) _
  have hbox : ModAt (w.alloc (.cells #[.slice at' nT ct, .slice af nF cf] 25)) w.heap.size (.slice at' nT ct) (.slice af nF cf) := ModAt.box w _ _ _
  obtain ⟨W0, hW0⟩ : ∃ W0, W0 = w.alloc (.cells #[.slice at' nT ct, .slice af nF cf] 25) := ⟨_, rfl⟩
  have hs0 : w.heap.size + 1 = W0.heap.size := by rw [hW0]; simp
  rw [← hW0] at hb0 hbox
  have HW0 := Lib.hid hW0
  have Hs0 := Lib.hid hs0
  have H0 := Lib.hid (And.intro hb0 (And.intro (hm0.later hb0) (And.intro hbox (hw.next hb0))))
  clear hm hm0 hw hb0 hnF hnT hbox hW0 hs0
  go_enter Tryd.func4, Tryd.ntmps4
  go_wp2_with fail
  rw [← HW0.out]
  refine (order_any _ _ F _ H0.out.2.1.funcs H0.out.2.2.2).mono ?_
  rintro e w1 ⟨vl, l, E, f, a, rfl, hvl, hO, hb1⟩
  have hs1 : w.heap.size + 1 ≤ w1.heap.size := by have := hb1.size; rw [← Hs0.out] at this; exact this
  obtain ⟨b4, hb4⟩ : ∃ b4, b4 = w1.heap.size := ⟨_, rfl⟩
  obtain ⟨W2, hW2⟩ : ∃ W2, W2 = w1.alloc (.cells #[.int .i64 E, .int .i64 f, .int .i64 a] 35) := ⟨_, rfl⟩
  have hb12 : Below w1.heap.size w1 W2 := by rw [hW2]; exact (Below.refl _ _).alloc (Nat.le_refl _) _
  have hbW2 : Below W0.heap.size W0 W2 := hb1.trans (hb12.mono hb1.size)
  have hs2 : b4 + 1 = W2.heap.size := by rw [hW2, World.size_alloc, hb4]
  have hf2 : FAt W2 b4 E f a := by rw [hW2, hb4]; exact FAt.box _ _ _ _ _
  have hbox2 : ModAt W2 w.heap.size (.slice at' nT ct) (.slice af nF cf) := H0.out.2.2.1.later hbW2 (by rw [← Hs0.out]; omega)
  have hbox2' := hbox2
  rw [hW2] at hbox2
  obtain ⟨m0, m1⟩ := hbox2
  have hk2 : ∀ g, vl.ownBlock = some g → g < b4 := fun g hg => by rw [hb4]; exact (World.ownsRow.lt hvl g hg).2
  have H2 := Lib.hid (And.intro (ownsRow_below hvl hb12 (Nat.le_refl _)) (And.intro hbW2 (And.intro hf2 (And.intro hO hbox2'))))
  have HW2 := Lib.hid hW2
  have Hb4 := Lib.hid hb4
  have Hs2 := Lib.hid hs2
  have hs1' : w.heap.size + 1 ≤ b4 := by omega
  clear hvl hO hb1 hb12 hbW2 hf2 hW2 hb4 hs2 hbox2'
  go_wp2_with fail
  rw [← HW2.out, ← Hb4.out]
  refine (rorder_any _ _ F _ (H0.out.2.1.later H2.out.2.1).funcs).mono ?_
  rintro e w3 ⟨vw, lw, E', f', a', rfl, hvw, hO', hb3⟩
  obtain ⟨rfl, rfl, rfl, rfl⟩ := H2.out.2.2.2.1.unique hO'
  have hll : l.length ≤ 32 := by
    rcases hO' with ⟨_, rfl, _⟩ | ⟨_, rfl, _⟩ | ⟨h, _, h2, _⟩
    · simp
    · simp
    · omega
  clear hO'
  have hs3 : b4 + 1 ≤ w3.heap.size := by have := hb3.size; rw [← Hs2.out] at this; exact this
  obtain ⟨b6, hb6⟩ : ∃ b6, b6 = w3.heap.size := ⟨_, rfl⟩
  obtain ⟨W4, hW4⟩ : ∃ W4, W4 = w3.alloc (.cells #[.int .i64 E, .int .i64 f, .int .i64 a] 35) := ⟨_, rfl⟩
  have hb34 : Below w3.heap.size w3 W4 := by rw [hW4]; exact (Below.refl _ _).alloc (Nat.le_refl _) _
  have hb24 : Below W2.heap.size W2 W4 := hb3.trans (hb34.mono hb3.size)
  have hs4 : b6 + 1 = W4.heap.size := by rw [hW4, World.size_alloc, hb6]
  have hL4 : LO W0 W4 vl vw l l := by
    have h1 : OwnInts W4 W0.heap.size vl l := ownsRow_below H2.out.1 hb24 (Nat.le_refl _)
    have h2 : OwnInts W4 W2.heap.size vw l := ownsRow_below hvw hb34 (Nat.le_refl _)
    refine ⟨H2.out.2.1.trans (hb24.mono H2.out.2.1.size), h1, ownsRow_mono h2 H2.out.2.1.size, fun k hk h3 => ?_⟩
    have h4 := (World.ownsRow.lt H2.out.1 k hk).2
    have h5 := (World.ownsRow.lt h2 k h3).1
    omega
  have hf4 : FAt W4 b6 E f a := by rw [hW4, hb6]; exact FAt.box _ _ _ _ _
  have hg4 : FAt W4 b4 E f a := H2.out.2.2.1.later hb24 (by rw [← Hs2.out]; omega)
  have HL4 := Lib.hid (And.intro hL4 (And.intro hg4 hf4))
  have HW4 := Lib.hid hW4
  have Hb6 := Lib.hid hb6
  have Hs4 := Lib.hid hs4
  have hs3' : b4 + 1 ≤ b6 := by omega
  clear hvw hb3 hb34 hb24 hs4 hL4 hf4 hg4 hW4 hb6 m0 m1
  go_wp2_with fail
  rw [← HW4.out]
  try rw [← Hb6.out]
  refine (fixed15_any _ (H0.out.2.2.2.next HL4.out.1.keep)).mono ?_
  rintro e w5 ⟨rfl, hb5⟩
  have HL5 := Lib.hid (And.intro (HL4.out.1.later hb5) (And.intro (HL4.out.2.1.later hb5 (by rw [← Hs4.out]; omega)) (HL4.out.2.2.later hb5 (by rw [← Hs4.out]; omega))))
  have hs5 : b6 + 1 ≤ w5.heap.size := by have := hb5.size; rw [← Hs4.out] at this; exact this
  clear hb5 HL4
  go_wp2_with fail
  refine (sameInts15_true _ _ l _ (SliceIn.of_owns HL5.out.1.l) (SliceIn.of_owns HL5.out.1.want) (by omega)).mono ?_
  rintro e w6' ⟨rfl, q6, rfl⟩
  have HL6 := Lib.hid (And.intro (HL5.out.1.later (below_draws w5 q6)) (And.intro (HL5.out.2.1.later (below_draws w5 q6) (by omega)) (HL5.out.2.2.later (below_draws w5 q6) (by omega))))
  obtain ⟨w6, hw6⟩ : ∃ w6 : World, w6 = w5.drewN q6 := ⟨_, rfl⟩
  have hs6 : b6 + 1 ≤ w6.heap.size := by rw [hw6]; simpa using hs5
  rw [← hw6] at HL6 ⊢
  clear hw6 HL5
  obtain ⟨al, cl, rfl, hal⟩ : ∃ al cl, vl = .slice al l.length cl ∧ (0 < l.length → ∃ g, al = some ⟨g, 0, none⟩) := by
    rcases HL6.out.1.l.form with ⟨h, h2⟩ | ⟨g, c, h, _⟩
    · exact ⟨none, 0, by rw [h, h2]; rfl, by rw [h2]; simp⟩
    · exact ⟨_, _, h, fun _ => ⟨g, rfl⟩⟩
  obtain ⟨nR, hnR⟩ : ∃ nR, nR = l.length := ⟨_, rfl⟩
  have hO6 : Hid (OrderIs F l E f a) := H2.out.2.2.2.1
  rw [← hnR] at hal HL6 hll hk2 ⊢
  have HnR := Lib.hid hnR
  clear hnR H2
  have hne := ne_fault
  have heq := eq_fault
  obtain ⟨x0, x1, x2⟩ := HL6.out.2.1
  obtain ⟨y0, y1, y2⟩ := HL6.out.2.2
  go_wp2_with fail
  go_loopg [7] nR (fun g i wr => ∃ k ll, k ≤ nR ∧ g = nR - k ∧ i = .int .i64 ((k : Nat) : Int) ∧ ll.length = nR ∧ LO W0 wr (.slice al nR cl) vw ll l ∧ FAt wr b6 E f a)
  case atStart => exact ⟨0, l, Nat.zero_le _, rfl, rfl, HnR.out.symm, HL6.out.1, HL6.out.2.2⟩
  case round =>
    obtain ⟨k, ll, hk, hg, rfl, hll2, hL, hF6⟩ := hrel
    have Hg := Lib.hid hg
    have HL := Lib.hid hL
    have Hll := Lib.hid hll2
    have HF6 := Lib.hid hF6
    clear hg hL hll2 HL6 hF6 x0 x1 x2 y0 y1 y2 hne heq
    by_cases hkn : k < nR
    · obtain ⟨gl, rfl⟩ := hal (by omega)
      have hglt := hk2 gl rfl
      have hck : wr.cell? ⟨gl, k, none⟩ = some (.int .i64 (ll.getD k 0)) := OwnInts.cell HL.out.l (by rw [Hll.out]; exact hkn)
      have hfk : wr.frozen? ⟨gl, k, none⟩ = false := OwnInts.free HL.out.l k
      have hnext : ∀ b : Int, LO W0 (wr.setCell ⟨gl, k, none⟩ (.int .i64 b)) (.slice (some ⟨gl, 0, none⟩) nR cl) vw (ll.set k b) l ∧ FAt (wr.setCell ⟨gl, k, none⟩ (.int .i64 b)) b6 E f a := fun b => by
        have hgl := (World.ownsRow.lt HL.out.l gl rfl).1
        refine ⟨⟨HL.out.keep.setCell hgl _, OwnInts.store HL.out.l k b, ownsRow_setCell_other HL.out.want (HL.out.apart gl rfl) _, HL.out.apart⟩, ?_⟩
        have hkk : ∀ j, (wr.setCell ⟨gl, k, none⟩ (.int .i64 b)).cell? ⟨b6, j, none⟩ = wr.cell? ⟨b6, j, none⟩ := fun j => World.cell?_of_block (Below.heap_setCell _ _ _ _ (by show b6 ≠ gl; omega))
        exact ⟨(hkk 0).trans HF6.out.c0, (hkk 1).trans HF6.out.c1, (hkk 2).trans HF6.out.c2⟩
      have HN := Lib.hid hnext
      clear hnext
      generalize ll.getD k 0 = y at hck
      go_wp2_with fail
      go_roundg (nR - (k + 1))
      case measure => have := Hg.out; omega
      case rel => exact ⟨k + 1, _, hkn, rfl, by go_num, by rw [List.length_set]; exact Hll.out, HN.out _⟩
    · have HL1 := Lib.hid HL.out.l
      have hll0 : ll.length ≤ 1000000000000 := by rw [Hll.out]; omega
      have Hll0 := Lib.hid hll0
      have hs1 := HL.out.keep.size
      have hsr := cell_lt HF6.out.c0
      clear hll0
      go_wp2_with (at_builtin; refine append_int rfl _ _ rfl W0.heap.size _ ll rfl HL1.out _ rfl Hll0.out hs1 ?_)
      intro v' w' ho' hgr hfr hbb
      have hbl' : Below W0.heap.size W0 w' := hbb _ _ HL.out.keep (Nat.le_refl _)
      have hwant' : OwnInts w' W0.heap.size vw l := (World.ownsRow.alloc HL.out.want _).kept hgr (by
        cases h : (Value.slice al nR cl).ownBlock with
        | none =>
          rcases HL.out.want.form with ⟨h2, _⟩ | ⟨g, c, h2, _⟩
          · left; rw [h2]; rfl
          · right; rw [h2]; simp [Value.ownBlock]
        | some g => right; exact HL.out.apart g h)
      have hF' : FAt w' b6 E f a := by
        have hb : w'.heap[b6]? = (wr.alloc (.cells #[.int .i64 5] 3)).heap[b6]? := hgr.block b6 (by simp only [World.size_alloc]; have : b6 < wr.heap.size := hsr; omega) (fun e => by have := hk2 b6 e.symm; omega)
        have hA := (Below.refl wr.heap.size wr).alloc (Nat.le_refl _) (.cells #[.int .i64 5] 3)
        have hkk : ∀ j, w'.cell? ⟨b6, j, none⟩ = wr.cell? ⟨b6, j, none⟩ := fun j => (World.cell?_of_block hb).trans (hA.cell (p := ⟨b6, j, none⟩) hsr)
        exact ⟨(hkk 0).trans HF6.out.c0, (hkk 1).trans HF6.out.c1, (hkk 2).trans HF6.out.c2⟩
      have HE' := Lib.hid (And.intro hbl' (And.intro hwant' hF'))
      have hs' : w.heap.size + 1 ≤ w'.heap.size := by have := hbl'.size; rw [← Hs0.out] at this; exact this
      have hw' : b6 < w'.heap.size := cell_lt hF'.c0
      clear ho' hgr hfr hbb hbl' hwant' hF' hsr
      obtain ⟨n0, n1⟩ := H0.out.2.2.1.later HE'.out.1 (by rw [← Hs0.out]; omega)
      go_wp2_with fail
      refine (order_any _ _ F _ (H0.out.2.1.later HE'.out.1).funcs (H0.out.2.2.2.next HE'.out.1)).mono ?_
      rintro e wE ⟨vE, lE, E', f', a', rfl, hvE, hO', hbE⟩
      obtain ⟨rfl, rfl, rfl, rfl⟩ := hO6.out.unique hO'
      clear hO' n0 n1
      obtain ⟨bE, hbe⟩ : ∃ bE, bE = wE.heap.size := ⟨_, rfl⟩
      obtain ⟨WE, hWE⟩ : ∃ WE, WE = wE.alloc (.cells #[.int .i64 E, .int .i64 f, .int .i64 a] 35) := ⟨_, rfl⟩
      have hbEE : Below wE.heap.size wE WE := by rw [hWE]; exact (Below.refl _ _).alloc (Nat.le_refl _) _
      have hbE2 : Below w'.heap.size w' WE := hbE.trans (hbEE.mono hbE.size)
      have hsE : bE + 1 = WE.heap.size := by rw [hWE, World.size_alloc, hbe]
      have HE : Hid (IntsIn WE vE l) := SliceIn.later (SliceIn.of_owns hvE) hbEE
      have HWE0 : Hid (IntsIn WE vw l) := SliceIn.later (SliceIn.of_owns HE'.out.2.1) hbE2
      have HBE : Hid (Below w.heap.size w WE) := H0.out.1.trans ((HE'.out.1.trans (hbE2.mono HE'.out.1.size)).mono (by rw [← Hs0.out]; omega))
      have HFE : Hid (FAt WE b6 E f a) := HE'.out.2.2.later hbE2 hw'
      have HFE2 : Hid (FAt WE bE E f a) := by show FAt WE bE E f a; rw [hWE, hbe]; exact FAt.box _ _ _ _ _
      have hbe6 : b6 < bE := by have := hbE.size; omega
      have HWE := Lib.hid hWE
      have Hbe := Lib.hid hbe
      have HsE := Lib.hid hsE
      clear hvE hbE hbEE hbE2 hWE hbe hsE
      go_wp2_with fail
      rw [← HWE.out]
      try rw [← Hbe.out]
      refine (sameInts15_true _ _ l _ HE.out HWE0.out (by have := HnR.out; omega)).mono ?_
      rintro e wF' ⟨rfl, qF, rfl⟩
      have hsF : bE + 1 ≤ WE.heap.size := by have := HsE.out; omega
      have hfx : FAt (WE.drewN qF) b6 E f a := HFE.out.later (below_draws _ _) (by omega)
      have hfy : FAt (WE.drewN qF) bE E f a := HFE2.out.later (below_draws _ _) (by omega)
      obtain ⟨x0, x1, x2⟩ := hfx
      obtain ⟨y0, y1, y2⟩ := hfy
      have heq := eq_fault
      go_wp2_with fail
      go_ret
      exact ⟨rfl, below_drewN HBE.out _⟩
end Go.Proofs.YtggkeodoenhmoaaDoor
