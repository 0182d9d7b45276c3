/- The statement CallsOf's walk: of every module every number it answers true and leaves what was there. -/
import Derived.Test.YtggkeodoenhmoaaDoorFixed15
import Derived.Test.YtggkeodoenhmoaaDoorSameMod
namespace Go.Proofs.YtggkeodoenhmoaaDoor
open Go.RowKit

theorem plain_at {F F' : List FR} (h : F'.map FR.plain = F.map FR.plain) (k : Nat) : (F'[k]?).map FR.plain = (F[k]?).map FR.plain := by
  have := congrArg (fun l => l[k]?) h
  simpa using this
theorem ofFn_plain {F F' : List FR} (h : F'.map FR.plain = F.map FR.plain) (fn : Int) : ofFn F' fn = ofFn F fn := by
  have hl : F'.length = F.length := by simpa using congrArg List.length h
  unfold ofFn
  split
  · have := plain_at h fn.toNat
    cases h1 : F'[fn.toNat]? <;> cases h2 : F[fn.toNat]? <;> rw [h1, h2] at this <;> simp [FR.plain] at this
    simp only; rw [this.2.2.2.2, hl]
  · rfl

/-- What stands while the lists are compared and written over: behind world W1 the list that was told, and the one that was wanted. -/
structure LO (W1 wr : World) (vl vw : Value) (ll O : List Int) : Prop where
  keep : Below W1.heap.size W1 wr
  l : OwnInts wr W1.heap.size vl ll
  want : OwnInts wr W1.heap.size vw O
  apart : ∀ k, vl.ownBlock = some k → vw.ownBlock ≠ some k
theorem LO.later {W1 wr w' : World} {vl vw : Value} {ll O : List Int} (h : LO W1 wr vl vw ll O) (hb : Below wr.heap.size wr w') : LO W1 w' vl vw ll O :=
  ⟨h.keep.trans (hb.mono h.keep.size), ownsRow_below h.l hb (Nat.le_refl _), ownsRow_below h.want hb (Nat.le_refl _), h.apart⟩

set_option maxRecDepth 100000 in
set_option maxHeartbeats 2000000 in
theorem lawOf_any (vt vf : Value) (ts : List Int) (F : List FR) (fn : Int) (w : World) (hm : ModIn w vt vf ts F) (hw : WordsIn w) :
    Calls Tryd.prog 3 #[modV vt vf, .int .i64 fn] w (Gives (.bool true) w) := by
  obtain ⟨-, af, cf, hvf, -⟩ := hm.funcs.row
  obtain ⟨-, at', ct, hvt, -⟩ := hm.thr
  subst hvf; subst hvt
  have hm0 := hm
  obtain ⟨nF, hnF⟩ : ∃ nF, nF = F.length := ⟨_, rfl⟩
  obtain ⟨nT, hnT⟩ : ∃ nT, nT = ts.length := ⟨_, rfl⟩
  rw [← hnF, ← hnT] at hm0 ⊢
  have hb0 : Below w.heap.size w (w.alloc (.cells #[.slice at' nT ct, .slice af nF cf] 25)) := (Below.refl _ _).alloc (Nat.le_refl _) _
  have Hm := Lib.hid hm0
  have H0 := Lib.hid (And.intro hb0 (hm0.later hb0))
  have Hw := Lib.hid hw
  clear hm hm0 hw hb0 hnF hnT
  go_enter Tryd.func3, Tryd.ntmps3
  go_wp2_with fail
  refine (copy_any _ _ ts F _ H0.out.2).mono ?_
  rintro e wA ⟨vt2, vf2, F2, rfl, hmA, hpl, hbA⟩
  obtain ⟨-, af2, cf2, hvf2, -⟩ := hmA.funcs.row
  obtain ⟨-, at2, ct2, hvt2, -⟩ := hmA.thr
  subst hvf2; subst hvt2
  obtain ⟨nF2, hnF2⟩ : ∃ n, n = F2.length := ⟨_, rfl⟩
  obtain ⟨nT2, hnT2⟩ : ∃ n, n = ts.length := ⟨_, rfl⟩
  rw [← hnF2, ← hnT2] at hmA ⊢
  have hbwA : Below w.heap.size w wA := H0.out.1.trans (hbA.mono (by simp))
  have hszA : w.heap.size + 1 ≤ wA.heap.size := by have := hbA.size; simpa using this
  obtain ⟨b5, hb5⟩ : ∃ b5, b5 = wA.heap.size := ⟨_, rfl⟩
  obtain ⟨W1, hW1⟩ : ∃ W1, W1 = wA.alloc (.cells #[.slice at2 nT2 ct2, .slice af2 nF2 cf2] 25) := ⟨_, rfl⟩
  have hbW1 : Below wA.heap.size wA W1 := by rw [hW1]; exact (Below.refl _ _).alloc (Nat.le_refl _) _
  have hs1 : W1.heap.size = b5 + 1 := by rw [hW1, World.size_alloc, hb5]
  have hbox : ModAt W1 w.heap.size (.slice at' nT ct) (.slice af nF cf) := ((ModAt.box w _ _ _).later hbA (by simp)).later hbW1 (by omega)
  have hown : ModAt W1 b5 (.slice at2 nT2 ct2) (.slice af2 nF2 cf2) := by rw [hW1, hb5]; exact ModAt.box wA _ _ _
  have hbw1 : Below w.heap.size w W1 := hbwA.trans (hbW1.mono (by omega))
  have HW1 := Lib.hid hW1
  have Hb5 := Lib.hid hb5
  have H1 := Lib.hid (And.intro hbox (And.intro hown (And.intro (hmA.later hbW1) (And.intro (Hm.out.later hbw1) (And.intro hbw1 (And.intro (Hw.out.next hbw1) hpl))))))
  have hsb : w.heap.size + 1 ≤ b5 := by omega
  have Hs1 := Lib.hid hs1
  clear hmA hpl hbA hbwA hszA hbW1 hs1 hbox hown hbw1 hW1 hb5 hnF2 hnT2 H0
  go_wp2_with fail
  rw [← HW1.out]
  try rw [← Hb5.out]
  refine (of_any _ _ F2 fn _ H1.out.2.2.1.funcs H1.out.2.2.2.2.2.1).mono ?_
  rintro e w2 ⟨vl, rfl, hvl, hb2⟩
  obtain ⟨O, hO⟩ : ∃ O, O = ofFn F fn := ⟨_, rfl⟩
  rw [ofFn_plain H1.out.2.2.2.2.2.2 fn, ← hO] at hvl
  have hOl : O.length ≤ 1024 := by rw [hO]; exact ofFn_len F fn
  have hs2 : b5 + 1 ≤ w2.heap.size := by have := hb2.size; rw [Hs1.out] at this; exact this
  obtain ⟨m0, m1⟩ := H1.out.1.later hb2 (by rw [Hs1.out]; omega)
  have H2 := Lib.hid (And.intro hvl (And.intro hb2 (H1.out.2.2.2.1.later hb2)))
  have HO := Lib.hid hO
  clear hvl hb2 hO HW1
  go_wp2_with fail
  refine (rof_any _ _ F fn _ H2.out.2.2.funcs).mono ?_
  rintro e w3 ⟨vw, rfl, hvw, hb3⟩
  rw [← HO.out] at hvw
  have hL3 : LO W1 w3 vl vw O O := by
    refine ⟨H2.out.2.1.trans (hb3.mono H2.out.2.1.size), ownsRow_below H2.out.1 hb3 (Nat.le_refl _), ownsRow_mono hvw H2.out.2.1.size, fun k hk h2 => ?_⟩
    have h3 := (World.ownsRow.lt H2.out.1 k hk).2
    have h4 := (World.ownsRow.lt hvw k h2).1
    omega
  have hs3 : b5 + 1 ≤ w3.heap.size := by have := hb3.size; omega
  have HL3 := Lib.hid hL3
  clear hvw hb3 hL3 m0 m1 H2
  obtain ⟨m0, m1⟩ := H1.out.1.later HL3.out.keep (by rw [Hs1.out]; omega)
  obtain ⟨n0, n1⟩ := H1.out.2.1.later HL3.out.keep (by rw [Hs1.out]; omega)
  go_wp2_with fail
  refine (sameMod_true _ _ _ _ ts F2 F _ (H1.out.2.2.1.later HL3.out.keep) (H1.out.2.2.2.1.later HL3.out.keep) H1.out.2.2.2.2.2.2.symm).mono ?_
  rintro e w4 ⟨rfl, hb4⟩
  have HL4 := Lib.hid (HL3.out.later hb4)
  clear hb4 m0 m1 n0 n1 HL3
  go_wp2_with fail
  refine (fixed15_any _ (H1.out.2.2.2.2.2.1.next HL4.out.keep)).mono ?_
  rintro e w5 ⟨rfl, hb5'⟩
  have HL5 := Lib.hid (HL4.out.later hb5')
  clear hb5' HL4
  go_wp2_with fail
  refine (sameInts15_true _ _ O _ (SliceIn.of_owns HL5.out.l) (SliceIn.of_owns HL5.out.want) (by omega)).mono ?_
  rintro e w6' ⟨rfl, q6, rfl⟩
  have HL6 := Lib.hid (HL5.out.later (below_draws w5 q6))
  obtain ⟨w6, hw6⟩ : ∃ w6 : World, w6 = w5.drewN q6 := ⟨_, rfl⟩
  rw [← hw6] at HL6 ⊢
  clear hw6 HL5
  obtain ⟨al, cl, rfl, hal⟩ : ∃ al cl, vl = .slice al O.length cl ∧ (0 < O.length → ∃ g, al = some ⟨g, 0, none⟩) := by
    rcases HL6.out.l.form with ⟨h, h2⟩ | ⟨g, c, h, _⟩
    · exact ⟨none, 0, by rw [h, h2]; rfl, by rw [h2]; simp⟩
    · exact ⟨_, _, h, fun _ => ⟨g, rfl⟩⟩
  obtain ⟨nR, hnR⟩ : ∃ nR, nR = O.length := ⟨_, rfl⟩
  rw [← hnR] at hal HL6 hOl ⊢
  have HnR := Lib.hid hnR
  clear hnR
  go_wp2_with fail
  go_loopg [9] nR (fun g i wr => ∃ k ll, k ≤ nR ∧ g = nR - k ∧ i = .int .i64 ((k : Nat) : Int) ∧ ll.length = nR ∧ LO W1 wr (.slice al nR cl) vw ll O)
  case atStart => exact ⟨0, O, Nat.zero_le _, rfl, rfl, HnR.out.symm, HL6.out⟩
  case round =>
    obtain ⟨k, ll, hk, hg, rfl, hll, hL⟩ := hrel
    have Hg := Lib.hid hg
    have HL := Lib.hid hL
    have Hll := Lib.hid hll
    clear hg hL hll HL6
    by_cases hkn : k < nR
    · obtain ⟨gl, rfl⟩ := hal (by omega)
      have hck : wr.cell? ⟨gl, k, none⟩ = some (.int .i64 (ll.getD k 0)) := OwnInts.cell HL.out.l (by rw [Hll.out]; exact hkn)
      have hfk : wr.frozen? ⟨gl, k, none⟩ = false := OwnInts.free HL.out.l k
      have hnext : ∀ b : Int, LO W1 (wr.setCell ⟨gl, k, none⟩ (.int .i64 b)) (.slice (some ⟨gl, 0, none⟩) nR cl) vw (ll.set k b) O := fun b => by
        have hgl := (World.ownsRow.lt HL.out.l gl rfl).1
        exact ⟨HL.out.keep.setCell hgl _, OwnInts.store HL.out.l k b, ownsRow_setCell_other HL.out.want (HL.out.apart gl rfl) _, HL.out.apart⟩
      have HN := Lib.hid hnext
      clear hnext
      generalize ll.getD k 0 = y at hck
      go_wp2_with fail
      go_roundg (nR - (k + 1))
      case measure => have := Hg.out; omega
      case rel => exact ⟨k + 1, _, hkn, rfl, by go_num, by rw [List.length_set]; exact Hll.out, HN.out _⟩
    · have HL1 := Lib.hid HL.out.l
      have hll0 : ll.length ≤ 1000000000000 := by rw [Hll.out]; omega
      have Hll0 := Lib.hid hll0
      have hs1 := HL.out.keep.size
      clear hll0
      go_wp2_with (at_builtin; refine append_int rfl _ _ rfl W1.heap.size _ ll rfl HL1.out _ rfl Hll0.out hs1 ?_)
      intro v' w' ho' hgr hfr hbb
      have hbl' : Below W1.heap.size W1 w' := hbb _ _ HL.out.keep (Nat.le_refl _)
      have hwant' : OwnInts w' W1.heap.size vw O := (World.ownsRow.alloc HL.out.want _).kept hgr (by
        cases h : (Value.slice al nR cl).ownBlock with
        | none =>
          rcases HL.out.want.form with ⟨h2, _⟩ | ⟨g, c, h2, _⟩
          · left; rw [h2]; rfl
          · right; rw [h2]; simp [Value.ownBlock]
        | some g => right; exact HL.out.apart g h)
      have HE' := Lib.hid (And.intro hbl' hwant')
      have hs' : b5 + 1 ≤ w'.heap.size := by have := hbl'.size; rw [Hs1.out] at this; exact this
      clear ho' hgr hfr hbb hbl' hwant'
      obtain ⟨n0, n1⟩ := H1.out.2.1.later HE'.out.1 (by rw [Hs1.out]; omega)
      go_wp2_with fail
      refine (of_any _ _ F2 fn _ (H1.out.2.2.1.later HE'.out.1).funcs (H1.out.2.2.2.2.2.1.next HE'.out.1)).mono ?_
      rintro e wE ⟨vE, rfl, hE, hbE⟩
      rw [ofFn_plain H1.out.2.2.2.2.2.2 fn, ← HO.out] at hE
      have HE : Hid (IntsIn wE vE O) := SliceIn.of_owns hE
      have HWE : Hid (IntsIn wE vw O) := SliceIn.later (SliceIn.of_owns HE'.out.2) hbE
      have HBE : Hid (Below w.heap.size w wE) := H1.out.2.2.2.2.1.trans ((HE'.out.1.trans (hbE.mono HE'.out.1.size)).mono (by rw [Hs1.out]; omega))
      have Hcl2 : Hid (O.length ≤ 1024) := by show _ ≤ _; rw [← HnR.out]; exact hOl
      clear hE hbE n0 n1
      go_wp2_with fail
      refine (sameInts15_true _ _ O _ HE.out HWE.out (by have := Hcl2.out; omega)).mono ?_
      rintro e wF ⟨rfl, qF, rfl⟩
      go_wp2_with fail
      go_ret
      exact ⟨rfl, below_drewN HBE.out _⟩
end Go.Proofs.YtggkeodoenhmoaaDoor
