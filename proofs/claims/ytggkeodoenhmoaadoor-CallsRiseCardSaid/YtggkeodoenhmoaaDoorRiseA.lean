/- The statement CallsRise's walk, first part: many functions, or no ring. -/
import Derived.Test.YtggkeodoenhmoaaDoorRisePlain
namespace Go.Proofs.YtggkeodoenhmoaaDoor
open Go.RowKit

set_option maxRecDepth 100000 in
set_option maxHeartbeats 4000000 in
theorem rise_many (vt vf : Value) (ts : List Int) (F : List FR) (w : World) (hm : ModIn w vt vf ts F) (hw : WordsIn w) (hmany : 32 < F.length) :
    Calls Tryd.prog 5 #[modV vt vf] w (Gives (.bool true) w) := by
  obtain ⟨-, af, cf, hvf, -⟩ := hm.funcs.row
  subst hvf
  have hm0 := hm
  obtain ⟨nF, hnF⟩ : ∃ nF, nF = F.length := ⟨_, rfl⟩
  rw [← hnF] at hm0 ⊢
  have hnb := hm.funcs.nFuncs
  have hb0 : Below w.heap.size w (w.alloc (.cells #[vt, .slice af nF cf] 25)) := (Below.refl _ _).alloc (Nat.le_refl _) _
  have hbox : ModAt (w.alloc (.cells #[vt, .slice af nF cf] 25)) w.heap.size vt (.slice af nF cf) := ModAt.box w _ _ _
  obtain ⟨W0, hW0⟩ : ∃ W0, W0 = w.alloc (.cells #[vt, .slice af nF cf] 25) := ⟨_, rfl⟩
  have hs0 : w.heap.size + 1 = W0.heap.size := by rw [hW0]; simp
  rw [← hW0] at hb0 hbox
  have HW0 := Lib.hid hW0
  have Hs0 := Lib.hid hs0
  have H0 := Lib.hid (And.intro hb0 (And.intro (hm0.later hb0) (And.intro hbox (hw.next hb0))))
  have HnF := Lib.hid hnF
  have hn32 : 32 < nF := by omega
  have hnB : nF ≤ 140737488351232 := by omega
  clear hm hm0 hw hb0 hnF hbox hW0 hs0 hnb hmany
  go_enter Tryd.func5, Tryd.ntmps5
  go_wp2_with fail
  rw [← HW0.out]
  refine (fixed15_any _ H0.out.2.2.2).mono ?_
  rintro e w1 ⟨rfl, hb1⟩
  have hs1 : w.heap.size + 1 ≤ w1.heap.size := by have := hb1.size; rw [← Hs0.out] at this; exact this
  have hbox := H0.out.2.2.1.later hb1 (by rw [← Hs0.out]; omega)
  obtain ⟨m0, m1⟩ := hbox
  have H1 := Lib.hid (And.intro hb1 (H0.out.2.1.later hb1))
  clear hb1
  go_wp2_with fail
  refine (order_any _ _ F _ H1.out.2.funcs (H0.out.2.2.2.next H1.out.1)).mono ?_
  rintro e w2 ⟨vl, l, E, f, a, rfl, hvl, hO, hb2⟩
  have hO' : l = [] ∧ E = 3 ∧ f = 32 ∧ a = 0 := by
    rcases hO with ⟨_, h⟩ | ⟨h, _⟩ | ⟨h, _⟩
    · exact h
    · have := HnF.out; omega
    · have := HnF.out; omega
  obtain ⟨rfl, rfl, rfl, rfl⟩ := hO'
  obtain ⟨al, cl, rfl⟩ : ∃ al cl, vl = .slice al 0 cl := by
    rcases OwnInts.form hvl with ⟨h, _⟩ | ⟨g, c, h, _⟩
    · exact ⟨_, _, h⟩
    · exact ⟨_, _, h⟩
  obtain ⟨b4, hb4⟩ : ∃ b4, b4 = w2.heap.size := ⟨_, rfl⟩
  obtain ⟨W2, hW2⟩ : ∃ W2, W2 = w2.alloc (.cells #[.int .i64 3, .int .i64 32, .int .i64 0] 35) := ⟨_, rfl⟩
  have hb22 : Below w2.heap.size w2 W2 := by rw [hW2]; exact (Below.refl _ _).alloc (Nat.le_refl _) _
  have hbW2 : Below W0.heap.size W0 W2 := H1.out.1.trans ((hb2.trans (hb22.mono hb2.size)).mono H1.out.1.size)
  have HR : Hid (Below w.heap.size w W2) := H0.out.1.trans (hbW2.mono (by rw [← Hs0.out]; omega))
  have hf2 : FAt W2 b4 3 32 0 := by rw [hW2, hb4]; exact FAt.box _ _ _ _ _
  have hbox2 : ModAt W2 w.heap.size vt (.slice af nF cf) := H0.out.2.2.1.later hbW2 (by rw [← Hs0.out]; omega)
  rw [hW2] at hbox2 hf2
  rw [hb4] at hf2
  clear m0 m1
  obtain ⟨m0, m1⟩ := hbox2
  obtain ⟨y0, y1, y2⟩ := hf2
  have HW2 := Lib.hid hW2
  clear hb22 hbW2 hvl hO hb2 hW2 hb4
  go_wp2_with fail
  rw [← HW2.out]
  go_ret
  exact ⟨rfl, HR.out⟩

set_option maxRecDepth 100000 in
set_option maxHeartbeats 4000000 in
theorem rise_ok (vt vf : Value) (ts : List Int) (F : List FR) (w : World) (hm : ModIn w vt vf ts F) (hw : WordsIn w) (hfew : F.length ≤ 32) (hno : ∀ x, ¬ Lead F x x) :
    Calls Tryd.prog 5 #[modV vt vf] w (Gives (.bool true) w) := by
  obtain ⟨-, af, cf, hvf, -⟩ := hm.funcs.row
  subst hvf
  have hm0 := hm
  obtain ⟨nF, hnF⟩ : ∃ nF, nF = F.length := ⟨_, rfl⟩
  rw [← hnF] at hm0 ⊢
  have hnb := hm.funcs.nFuncs
  have hb0 : Below w.heap.size w (w.alloc (.cells #[vt, .slice af nF cf] 25)) := (Below.refl _ _).alloc (Nat.le_refl _) _
  have hbox : ModAt (w.alloc (.cells #[vt, .slice af nF cf] 25)) w.heap.size vt (.slice af nF cf) := ModAt.box w _ _ _
  obtain ⟨W0, hW0⟩ : ∃ W0, W0 = w.alloc (.cells #[vt, .slice af nF cf] 25) := ⟨_, rfl⟩
  have hs0 : w.heap.size + 1 = W0.heap.size := by rw [hW0]; simp
  rw [← hW0] at hb0 hbox
  have HW0 := Lib.hid hW0
  have Hs0 := Lib.hid hs0
  have H0 := Lib.hid (And.intro hb0 (And.intro (hm0.later hb0) (And.intro hbox (hw.next hb0))))
  have HnF := Lib.hid hnF
  have Hno := Lib.hid hno
  have hn32 : nF ≤ 32 := by omega
  have hnB : nF ≤ 140737488351232 := by omega
  clear hm hm0 hw hb0 hnF hbox hW0 hs0 hnb hfew hno
  go_enter Tryd.func5, Tryd.ntmps5
  go_wp2_with fail
  rw [← HW0.out]
  refine (fixed15_any _ H0.out.2.2.2).mono ?_
  rintro e w1 ⟨rfl, hb1⟩
  have hs1 : w.heap.size + 1 ≤ w1.heap.size := by have := hb1.size; rw [← Hs0.out] at this; exact this
  have hbox := H0.out.2.2.1.later hb1 (by rw [← Hs0.out]; omega)
  obtain ⟨m0, m1⟩ := hbox
  have H1 := Lib.hid (And.intro hb1 (H0.out.2.1.later hb1))
  clear hb1
  go_wp2_with fail
  refine (order_any _ _ F _ H1.out.2.funcs (H0.out.2.2.2.next H1.out.1)).mono ?_
  rintro e w2 ⟨vl, l, E, f, a, rfl, hvl, hO, hb2⟩
  have hO' : Ord F l ∧ l.length = nF ∧ E = 0 ∧ f = 0 ∧ a = 0 := by
    rcases hO with ⟨h, _⟩ | ⟨_, _, _, j, k, p, _, _, hr, _⟩ | ⟨_, h1, h2, _, h3⟩
    · have := HnF.out; omega
    · exact absurd hr.1 (Hno.out _)
    · exact ⟨h1, by rw [h2, HnF.out], h3⟩
  obtain ⟨hord, hln, rfl, rfl, rfl⟩ := hO'
  obtain ⟨al, cl, rfl, hal⟩ : ∃ al cl, vl = .slice al nF cl ∧ (0 < nF → ∃ g, al = some ⟨g, 0, none⟩) := by
    rcases OwnInts.form hvl with ⟨h, h2⟩ | ⟨g, c, h, _⟩
    · rw [h2] at hln; simp at hln; subst hln; exact ⟨_, _, h, fun h => absurd h (Nat.lt_irrefl _)⟩
    · rw [hln] at h; exact ⟨_, _, h, fun _ => ⟨g, rfl⟩⟩
  obtain ⟨b4, hb4⟩ : ∃ b4, b4 = w2.heap.size := ⟨_, rfl⟩
  obtain ⟨W2, hW2⟩ : ∃ W2, W2 = w2.alloc (.cells #[.int .i64 0, .int .i64 0, .int .i64 0] 35) := ⟨_, rfl⟩
  have hb22 : Below w2.heap.size w2 W2 := by rw [hW2]; exact (Below.refl _ _).alloc (Nat.le_refl _) _
  have hbW2 : Below W0.heap.size W0 W2 := H1.out.1.trans ((hb2.trans (hb22.mono hb2.size)).mono H1.out.1.size)
  have hf2 : FAt W2 b4 0 0 0 := by rw [hW2, hb4]; exact FAt.box _ _ _ _ _
  have hbox2 : ModAt W2 w.heap.size vt (.slice af nF cf) := H0.out.2.2.1.later hbW2 (by rw [← Hs0.out]; omega)
  have hl2 : OwnInts W2 w1.heap.size (.slice al nF cl) l := ownsRow_below hvl hb22 (Nat.le_refl _)
  have hs2 : w1.heap.size + 1 ≤ W2.heap.size := by have := hb2.size; rw [hW2, World.size_alloc]; omega
  have H2 := Lib.hid (And.intro hbW2 (And.intro hl2 (And.intro hord hln)))
  rw [hW2] at hbox2 hf2
  rw [hb4] at hf2
  clear m0 m1
  obtain ⟨m0, m1⟩ := hbox2
  obtain ⟨y0, y1, y2⟩ := hf2
  have HW2 := Lib.hid hW2
  clear hb22 hbW2 hvl hO hb2 hW2 hb4 hord hln hl2
  go_wp2_with (at_make; rw [← HW2.out]; refine make_bools rfl _ _ rfl W2.heap.size nF rfl rfl (by omega) (Nat.le_refl _) ?_)
  intro w4 hdn hg4
  have hb4 : Below W2.heap.size W2 w4 := Below.grown (Below.refl _ _) hg4 (Nat.le_refl _) (by intro k hk; cases hk)
  have hs4 : W2.heap.size + 1 ≤ w4.heap.size := by
    have := (World.ownsRow.lt hdn W2.heap.size (by simp [Value.ownBlock])).2; omega
  obtain ⟨B, hB⟩ : ∃ B, B = W2.heap.size := ⟨_, rfl⟩
  rw [← hB] at hdn hs4 ⊢
  have hl4 : OwnInts w4 w1.heap.size (.slice al nF cl) l := ownsRow_below H2.out.2.1 hb4 (Nat.le_refl _)
  have HB := Lib.hid hB
  have H4 := Lib.hid (And.intro hdn (And.intro hl4 hb4))
  have hs14 : w1.heap.size + 1 ≤ B := by omega
  have hgB0 : ∀ g, al = some ⟨g, 0, none⟩ → g < B := fun g hg => by rw [HB.out]; exact (World.ownsRow.lt H2.out.2.1 g (by rw [hg]; rfl)).2
  clear hdn hg4 hb4 hl4 hB m0 m1 y0 y1 y2
  go_wp2_with fail
  go_loopw [12] (fun i wr => ∃ (k : Nat) (dl : List Bool), k ≤ nF ∧ i = .int .i64 k ∧ dl.length = nF ∧ (∀ x : Nat, x < nF → dl.getD x false = decide ((x : Int) ∈ l.take k)) ∧ OwnBools wr B (.slice (some ⟨B, 0, none⟩) nF nF) dl ∧ OwnInts wr w1.heap.size (.slice al nF cl) l ∧ Below B W2 wr) (fun i _ => nF - (intOf i).toNat)
  case atStart => exact ⟨0, _, Nat.zero_le _, rfl, by simp, fun x hx => by simp [List.getD, hx], H4.out.1, H4.out.2.1, by rw [HB.out]; exact H4.out.2.2⟩
  case round =>
    obtain ⟨k, dl, hk, rfl, hdl, hdx, hdn, hl, hb⟩ := hrel
    obtain ⟨W5, rfl⟩ : ∃ W5 : World, W5 = wr := ⟨_, rfl⟩
    by_cases hkn : k < nF
    · obtain ⟨gl, rfl⟩ := hal (by omega)
      have hgB := hgB0 gl rfl
      have hlk : l[k]? = some (l[k]'(by rw [H2.out.2.2.2]; exact hkn)) := List.getElem?_eq_getElem _
      have hnx := H2.out.2.2.1 k _ hlk
      obtain ⟨x, hx⟩ : ∃ x, x = l[k]'(by rw [H2.out.2.2.2]; exact hkn) := ⟨_, rfl⟩
      rw [← hx] at hlk hnx
      obtain ⟨X, rfl⟩ := Int.eq_ofNat_of_zero_le hnx.lo
      have hXn : X < nF := by have := hnx.hi; rw [← HnF.out] at this; omega
      have hck : W5.cell? ⟨gl, k, none⟩ = some (.int .i64 (X : Int)) := by
        have := OwnInts.cell hl (k := k) (by rw [H2.out.2.2.2]; exact hkn)
        rwa [show l.getD k 0 = (X : Int) by simp [List.getD, hlk]] at this
      have hdX : W5.cell? ⟨B, X, none⟩ = some (.bool false) := by
        have := OwnBools.cell hdn (k := X) (by rw [hdl]; exact hXn)
        rwa [hdx X hXn, decide_eq_false hnx.new] at this
      have hbb : Below W0.heap.size W0 W5 := H2.out.1.trans (hb.mono (by rw [HB.out]; exact H2.out.1.size))
      have hwb : W0.heap.size ≤ w1.heap.size := H1.out.1.size
      obtain ⟨m0, m1⟩ := H0.out.2.2.1.later hbb (by rw [← Hs0.out]; omega)
      have HX := Lib.hid (And.intro hnx hlk)
      have H5 := Lib.hid (And.intro hdl (And.intro hdx (And.intro hdn (And.intro hl (And.intro hb hbb)))))
      have hsz5 : B ≤ W5.heap.size := by have := hb.size; rw [← HB.out] at this; exact this
      clear hdl hdx hdn hl hb hbb hnx hlk hx
      go_wp2_with fail
      go_still_tail 5, (by kernel_rfl)
      change wpList _ _ _ _ _ W5.drew
      have hmd : ModIn W5.drew vt (.slice af nF cf) ts F := H0.out.2.1.later (H5.out.2.2.2.2.2.drew)
      have Hmd := Lib.hid hmd
      clear hmd
      go_wp2_with fail
      refine (rof_any _ _ F (X : Int) _ Hmd.out.funcs).mono ?_
      rintro e w6 ⟨vo, rfl, hvo, hb6⟩
      obtain ⟨O, hO⟩ : ∃ O, O = ofFn F (X : Int) := ⟨_, rfl⟩
      rw [← hO] at hvo
      have hOl : O.length ≤ 1024 := by rw [hO]; exact ofFn_len F _
      obtain ⟨hdl, hdx, hdn, hl, hb, hbb⟩ := H5.out
      have hbd : Below W5.heap.size W5 w6 := (Below.refl _ _).drew.trans hb6
      have hdn6 : OwnBools w6 B (.slice (some ⟨B, 0, none⟩) nF nF) dl := ownsRow_below hdn hbd (Nat.le_refl _)
      have hl6 : OwnInts w6 w1.heap.size (.slice (some ⟨gl, 0, none⟩) nF cl) l := ownsRow_below hl hbd (Nat.le_refl _)
      have hb6' : Below B W2 w6 := hb.trans (hbd.mono hsz5)
      have hgl5 : gl < W5.heap.size := (World.ownsRow.lt hl gl rfl).2
      have hck6 : w6.cell? ⟨gl, k, none⟩ = some (.int .i64 (X : Int)) := (hbd.cell (p := ⟨gl, k, none⟩) hgl5).trans hck
      obtain ⟨ao, co, rfl, hao⟩ : ∃ ao co, vo = .slice ao O.length co ∧ (0 < O.length → ∃ g, ao = some ⟨g, 0, none⟩) := by
        rcases OwnInts.form hvo with ⟨h, h2⟩ | ⟨g, c, h, _⟩
        · exact ⟨none, 0, by rw [h, h2]; rfl, by rw [h2]; simp⟩
        · exact ⟨_, _, h, fun _ => ⟨g, rfl⟩⟩
      obtain ⟨nO, hnO⟩ : ∃ nO, nO = O.length := ⟨_, rfl⟩
      rw [← hnO] at hao hvo hOl ⊢
      have HO := Lib.hid hO
      have HnO := Lib.hid hnO
      have H6 := Lib.hid (And.intro hdn6 (And.intro hl6 (And.intro hb6' hvo)))
      have H5' := Lib.hid (And.intro hdl hdx)
      clear hdl hdx hdn hl hb hbb hbd hdn6 hl6 hb6' hvo hb6 hO hnO m0 m1 hck hdX H5 Hmd
      go_wp2_with fail
      go_loopw [14] (fun i wi => ∃ q : Nat, q ≤ nO ∧ i = .int .i64 q ∧ wi = w6) (fun i _ => nO - (intOf i).toNat)
      case atStart => exact ⟨0, Nat.zero_le _, rfl, rfl⟩
      case round =>
        obtain ⟨q, hq, rfl, rfl⟩ := hrel
        obtain ⟨w6, rfl⟩ : ∃ w6 : World, w6 = wr := ⟨_, rfl⟩
        by_cases hqn : q < nO
        · obtain ⟨go, rfl⟩ := hao (by omega)
          have hoq : O[q]? = some (O[q]'(by rw [← HnO.out]; exact hqn)) := List.getElem?_eq_getElem _
          have hcq := OwnInts.cell H6.out.2.2.2 (k := q) (by rw [← HnO.out]; exact hqn)
          have hOd : O.getD q 0 = O[q]'(by rw [← HnO.out]; exact hqn) := by simp [List.getD, hoq]
          rw [hOd] at hcq
          have hmem : O[q]'(by rw [← HnO.out]; exact hqn) ∈ ofFn F (X : Int) := by rw [← HO.out]; exact List.getElem_mem _
          have hrg := ofFn_range hmem
          have hin := HX.out.1.free _ hmem
          generalize O[q]'(by rw [← HnO.out]; exact hqn) = y at hcq hmem hrg hin
          obtain ⟨Y, rfl⟩ := Int.eq_ofNat_of_zero_le hrg.1
          have hYn : Y < nF := by have := hrg.2; rw [← HnF.out] at this; omega
          have hdY : w6.cell? ⟨B, Y, none⟩ = some (.bool true) := by
            have := OwnBools.cell H6.out.1 (k := Y) (by rw [H5'.out.1]; exact hYn)
            rwa [H5'.out.2 Y hYn, decide_eq_true hin] at this
          clear hoq hOd hmem hrg hin
          go_wp2_with fail
          go_roundw
          case rel => exact ⟨q + 1, by omega, by go_num, trivial⟩
          case measure => simp [intOf]; omega
        · have hfz : w6.frozen? ⟨B, X, none⟩ = false := OwnBools.free H6.out.1 X
          have hdX6 : w6.cell? ⟨B, X, none⟩ = some (.bool (dl.getD X false)) := OwnBools.cell H6.out.1 (by rw [H5'.out.1]; exact hXn)
          generalize dl.getD X false = bX at hdX6
          go_wp2_with fail
          go_roundw
          case rel => 
            refine ⟨k + 1, dl.set X true, by omega, by go_num, by rw [List.length_set]; exact H5'.out.1, fun x hx => ?_, OwnBools.store H6.out.1 X true, ownsRow_setCell_other H6.out.2.1 ?_ _, H6.out.2.2.1.setCell (Nat.le_refl _) _⟩
            · rw [take_snoc HX.out.2, getD_set _ _ _ _ _ (by rw [H5'.out.1]; exact hXn)]
              split
              · rename_i h; subst h; simp
              · rename_i h
                rw [H5'.out.2 x hx]
                simp; omega
            · intro hg
              have hg2 : gl = B := Option.some.inj hg
              rw [← hg2] at hgB
              exact absurd hgB (Nat.lt_irrefl _)
          case measure => simp [intOf]; omega
    · have ek : k = nF := by omega
      subst ek
      go_wp2_with fail
      go_ret
      exact ⟨rfl, H0.out.1.trans ((H2.out.1.trans (hb.mono (by rw [HB.out]; exact H2.out.1.size))).mono (by rw [← Hs0.out]; omega))⟩
end Go.Proofs.YtggkeodoenhmoaaDoor
