/- The statement CallsRise's walk, second part: a ring. -/
import Derived.Test.YtggkeodoenhmoaaDoorRiseA
namespace Go.Proofs.YtggkeodoenhmoaaDoor
open Go.RowKit

set_option maxRecDepth 100000 in
set_option maxHeartbeats 4000000 in
theorem rise_ring (vt vf : Value) (ts : List Int) (F : List FR) (w : World) (hm : ModIn w vt vf ts F) (hw : WordsIn w) (hfew : F.length ≤ 32) (hyes : ∃ x, Lead F x x) :
    Calls Tryd.prog 5 #[modV vt vf] w (Gives (.bool true) w) := by
  obtain ⟨-, af, cf, hvf, -⟩ := hm.funcs.row
  subst hvf
  have hm0 := hm
  obtain ⟨nF, hnF⟩ : ∃ nF, nF = F.length := ⟨_, rfl⟩
  rw [← hnF] at hm0 ⊢
  have hnb := hm.funcs.nFuncs
  have hb0 : Below w.heap.size w (w.alloc (.cells #[vt, .slice af nF cf] 25)) := (Below.refl _ _).alloc (Nat.le_refl _) _
  have hbox : ModAt (w.alloc (.cells #[vt, .slice af nF cf] 25)) w.heap.size vt (.slice af nF cf) := ModAt.box w _ _ _
  obtain ⟨W0, hW0⟩ : ∃ W0, W0 = w.alloc (.cells #[vt, .slice af nF cf] 25) := ⟨_, rfl⟩
  have hs0 : w.heap.size + 1 = W0.heap.size := by rw [hW0]; simp
  rw [← hW0] at hb0 hbox
  have HW0 := Lib.hid hW0
  have Hs0 := Lib.hid hs0
  have H0 := Lib.hid (And.intro hb0 (And.intro (hm0.later hb0) (And.intro hbox (hw.next hb0))))
  have HnF := Lib.hid hnF
  have Hyes := Lib.hid hyes
  have hn32 : nF ≤ 32 := by omega
  have hnB : nF ≤ 140737488351232 := by omega
  clear hm hm0 hw hb0 hnF hbox hW0 hs0 hnb hfew hyes
  go_enter Tryd.func5, Tryd.ntmps5
  go_wp2_with fail
  rw [← HW0.out]
  refine (fixed15_any _ H0.out.2.2.2).mono ?_
  rintro e w1 ⟨rfl, hb1⟩
  have hs1 : w.heap.size + 1 ≤ w1.heap.size := by have := hb1.size; rw [← Hs0.out] at this; exact this
  have hbox := H0.out.2.2.1.later hb1 (by rw [← Hs0.out]; omega)
  obtain ⟨m0, m1⟩ := hbox
  have H1 := Lib.hid (And.intro hb1 (H0.out.2.1.later hb1))
  clear hb1
  go_wp2_with fail
  refine (order_any _ _ F _ H1.out.2.funcs (H0.out.2.2.2.next H1.out.1)).mono ?_
  rintro e w2 ⟨vl, l, E, f, a, rfl, hvl, hO, hb2⟩
  have hO' : l = [] ∧ E = 75 ∧ ∃ (j k : Nat) (p : Pr), f = (j : Int) ∧ j < nF ∧ RingAt F j k ∧ (callsFn F j)[k]? = some p ∧ a = p.1 := by
    rcases hO with ⟨h, _⟩ | ⟨_, h1, h2, j, k, p, h3, h4, h5, h6, h7, _⟩ | ⟨_, _, _, h1, _⟩
    · have := HnF.out; omega
    · exact ⟨h1, h2, j, k, p, h3, by rw [HnF.out]; exact h4, h5, h6, h7⟩
    · obtain ⟨x, hx⟩ := Hyes.out; exact absurd hx (h1 x)
  obtain ⟨rfl, rfl, j, k, p, rfl, hjn, hring, hp, rfl⟩ := hO'
  have hback : BackAt F j p := by
    obtain ⟨_, ⟨p', hp', hb'⟩, _⟩ := hring
    rw [hp] at hp'; cases hp'; exact hb'
  obtain ⟨x, c, y, hx, hpc, hy, hop, hyn⟩ := calls_at hp
  have hpr : 0 ≤ p.2 ∧ p.2 < nF := by rw [HnF.out]; exact callsFn_range (List.mem_of_getElem? hp)
  obtain ⟨p1, p2⟩ := p
  simp only at hpc hyn hpr hback ⊢
  subst hpc
  obtain ⟨x0, rfl⟩ := Int.eq_ofNat_of_zero_le hpr.1
  have hx0n : x0 < nF := by omega
  obtain ⟨al, cl, rfl⟩ : ∃ al cl, vl = .slice al 0 cl := by
    rcases OwnInts.form hvl with ⟨h, _⟩ | ⟨g, c, h, _⟩
    · exact ⟨_, _, h⟩
    · exact ⟨_, _, h⟩
  obtain ⟨b4, hb4⟩ : ∃ b4, b4 = w2.heap.size := ⟨_, rfl⟩
  obtain ⟨W2, hW2⟩ : ∃ W2, W2 = w2.alloc (.cells #[.int .i64 75, .int .i64 (j : Int), .int .i64 (c : Int)] 35) := ⟨_, rfl⟩
  have hb22 : Below w2.heap.size w2 W2 := by rw [hW2]; exact (Below.refl _ _).alloc (Nat.le_refl _) _
  have hbW2 : Below W0.heap.size W0 W2 := H1.out.1.trans ((hb2.trans (hb22.mono hb2.size)).mono H1.out.1.size)
  have hf2 : FAt W2 b4 75 j c := by rw [hW2, hb4]; exact FAt.box _ _ _ _ _
  have hbox2 : ModAt W2 w.heap.size vt (.slice af nF cf) := H0.out.2.2.1.later hbW2 (by rw [← Hs0.out]; omega)
  have hm2 : ModIn W2 vt (.slice af nF cf) ts F := H0.out.2.1.later hbW2
  obtain ⟨-, bf, of_, rfl, hbf, c0, c1, c2, c3, c4⟩ := hm2.funcs.at hx
  have hok := hm2.funcs.each x (List.mem_of_getElem? hx)
  obtain ⟨xs, vp, regs, words, vc, params, code⟩ := x
  obtain ⟨hc, -, hlc, -⟩ := hok
  simp only at c0 c1 c2 c3 c4 hc hlc hy
  have hc0 := hc
  obtain ⟨-, ac, cc, rfl, -⟩ := hc0
  obtain ⟨nc, hnc⟩ : ∃ nc, nc = code.length := ⟨_, rfl⟩
  rw [← hnc] at c4 hlc
  have hcn : c < nc := by rw [hnc]; exact (List.getElem?_eq_some_iff.1 hy).1
  obtain ⟨bc, oc, rfl, hbc⟩ : ∃ bc oc, ac = some ⟨bc, oc, none⟩ ∧ bc < W2.heap.size := by
    obtain ⟨_, a', cap', hv, _, _, _, hc⟩ := hc
    cases hv
    obtain ⟨bc, oc, h1, h2, _⟩ := hc (by omega)
    exact ⟨bc, oc, h1, h2⟩
  obtain ⟨q0, q1, q2, q3, q4⟩ := CodeIn.at hc rfl hy
  obtain ⟨op, ya, yb, yc, yn⟩ := y
  simp only at q0 q1 q2 q3 q4 hop hyn
  subst hop; subst hyn
  have hnf : FAt (w2.alloc (.cells #[.int .i64 75, .int .i64 (j : Int), .int .i64 (c : Int)] 35)) w2.heap.size 75 j c := FAt.box _ _ _ _ _
  obtain ⟨z0, z1, z2⟩ := hnf
  have HW2 := Lib.hid hW2
  have Hb4 := Lib.hid hb4
  have Hnc := Lib.hid hnc
  have H2 := Lib.hid (And.intro hbW2 (And.intro hm2 (And.intro hbox2 hf2)))
  have hs4 : w1.heap.size ≤ b4 := by rw [hb4]; exact hb2.size
  have hs2 : b4 + 1 = W2.heap.size := by rw [hW2, World.size_alloc, hb4]
  have Hs2 := Lib.hid hs2
  have Hy := Lib.hid hy
  have Hc := Lib.hid hc
  have Hback := Lib.hid hback
  clear hb22 hbW2 hvl hO hb2 hW2 hb4 hring hp hc hx hy hbox2 hf2 hm2 hnc hs2 hback
  go_upto_region 4 with (fail)
  rw [← HW2.out, ← Hb4.out]
  clear m0 m1 z0 z1 z2
  obtain ⟨m0, m1⟩ := H2.out.2.2.1
  obtain ⟨y0, y1, y2⟩ := H2.out.2.2.2
  go_wp2_with (go_quiet (fail))
  obtain ⟨W3, hW3⟩ : ∃ W3 : World, W3 = W2.drewN nq := ⟨_, rfl⟩
  rw [← hW3]
  have hb23 : Below W2.heap.size W2 W3 := by rw [hW3]; exact below_draws _ _
  have hs23 : W3.heap.size = b4 + 1 := by rw [hW3]; exact Hs2.out.symm
  have hk : ∀ p, W3.cell? p = W2.cell? p := fun p => by rw [hW3]; exact World.cell?_drewN _ _ _
  rw [← hk] at m0 m1 y0 y1 y2 c4 q0 q1 q2 q3 q4
  have Hk := Lib.hid hk
  have Hs23 := Lib.hid hs23
  have Hb23 := Lib.hid hb23
  have hlt4 : b4 < W3.heap.size := by omega
  have hltf : bf < W3.heap.size := by have := hb23.size; omega
  have hltc : bc < W3.heap.size := by have := hb23.size; omega
  have hltw : w.heap.size < W3.heap.size := by omega
  clear hk hb23 hs23 hW3 c0 c1 c2 c3
  go_region
  obtain ⟨bx, hbx⟩ : ∃ bx, bx = W3.heap.size := ⟨_, rfl⟩
  obtain ⟨W4, hW4⟩ : ∃ W4 : World, W4 = (W3.alloc (.cells #[.int .i64 19, .int .i64 ya, .int .i64 yb, .int .i64 yc, .int .i64 (x0 : Int)] 44)).drew := ⟨_, rfl⟩
  rw [← hW4]
  try rw [← hbx]
  have hb34 : Below W3.heap.size W3 W4 := by rw [hW4]; exact ((Below.refl _ _).alloc (Nat.le_refl _) _).drew
  have hk4 : ∀ (p : Addr) u, W3.cell? p = some u → W4.cell? p = some u := fun p u h => (hb34.cell (cell_lt h)).trans h
  replace m0 := hk4 _ _ m0
  replace m1 := hk4 _ _ m1
  replace y0 := hk4 _ _ y0
  replace y1 := hk4 _ _ y1
  replace y2 := hk4 _ _ y2
  have x0c : W4.cell? ⟨bx, 0, none⟩ = some (.int .i64 19) := by rw [hW4, hbx]; exact (World.cell?_drew _ _).trans (World.cell?_alloc_at _ _ _ _ rfl)
  have x4c : W4.cell? ⟨bx, 4, none⟩ = some (.int .i64 (x0 : Int)) := by rw [hW4, hbx]; exact (World.cell?_drew _ _).trans (World.cell?_alloc_at _ _ _ _ rfl)
  have hB4 : W4.heap.size = bx + 1 := by rw [hW4, hbx]; simp
  have hb24 : Below W2.heap.size W2 W4 := Hb23.out.trans (hb34.mono Hb23.out.size)
  have hs4x : b4 + 1 ≤ bx := by rw [hbx, Hs23.out]; exact Nat.le_refl _
  obtain ⟨B, hB⟩ : ∃ B, B = W4.heap.size := ⟨_, rfl⟩
  have hBx : bx + 1 ≤ B := by omega
  have HB := Lib.hid hB
  have H4 := Lib.hid (And.intro (H2.out.1.trans (hb24.mono H2.out.1.size)) (And.intro (H2.out.2.1.later hb24) (And.intro (ModAt.mk m0 m1) (FAt.mk y0 y1 y2))))
  clear hk4 hB4 hb24 hb34 hW4 hbx hB c4 q0 q1 q2 q3 q4 hltf hltc hlt4 hltw hlc hcn hbf hbc Hb23 Hs23 Hk
  go_wp2_with (at_make; refine make_bools rfl _ _ rfl W4.heap.size nF rfl rfl (by omega) (Nat.le_refl _) ?_)
  intro w5 hdn hg5
  have hb45 : Below W4.heap.size W4 w5 := Below.grown (Below.refl _ _) hg5 (Nat.le_refl _) (by intro k hk; cases hk)
  rw [← HB.out] at hdn hb45 ⊢
  have hs5 : B + 1 ≤ w5.heap.size := by
    have := (World.ownsRow.lt hdn B (by simp [Value.ownBlock])).2; omega
  replace m0 := (hb45.cell (p := ⟨w.heap.size, 0, none⟩) (by show w.heap.size < B; omega)).trans m0
  replace m1 := (hb45.cell (p := ⟨w.heap.size, 1, none⟩) (by show w.heap.size < B; omega)).trans m1
  replace x4c := (hb45.cell (p := ⟨bx, 4, none⟩) (by show bx < B; omega)).trans x4c
  obtain ⟨W5, hW5⟩ : ∃ W5 : World, W5 = w5.alloc (.cells #[.int .i64 (x0 : Int)] 3) := ⟨_, rfl⟩
  have hsw : SW B W4 W5 nF (List.replicate nF false) (.slice (some ⟨w5.heap.size, 0, none⟩) 1 1) [(x0 : Int)] := by
    rw [hW5]
    exact ⟨World.ownsRow.alloc hdn _, owns_new w5 1 [.int .i64 (x0 : Int)] hs5 rfl (by omega), hb45.alloc (by omega) _, by rw [World.size_alloc]; omega⟩
  have HS := Lib.hid hsw
  have HW5 := Lib.hid hW5
  clear hdn hg5 hb45 hsw hW5 y0 y1 y2 x0c
  go_wp2_with fail
  rw [← HW5.out]
  generalize w5.heap.size = bt at HS
  go_loopg [7, 8] (1 + 1025 * nF) (fun g v i wr => ∃ (T : List Int) (k : Nat) (M : List Bool), Srch F j (x0 : Int) nF T k M ∧ g = T.length - k + 1025 * M.count false ∧ i = .int .i64 (k : Int) ∧ (∃ a c, v = .slice a T.length c) ∧ SW B W4 wr nF M v T)
  case atStart => exact ⟨_, 0, _, Srch.begin hpr.1 hpr.2 hn32, by simp, rfl, ⟨_, _, rfl⟩, HS.out⟩
  case round =>
    obtain ⟨T, k, M, hS, hg, rfl, ⟨a7, c7, rfl⟩, hsw⟩ := hrel
    obtain ⟨W6, rfl⟩ : ∃ W6 : World, W6 = wr := ⟨_, rfl⟩
    have hsmall := hS.small
    have hki := hS.hi
    by_cases hkn : k < T.length
    · have hTk : T[k]? = some (T[k]'hkn) := List.getElem?_eq_getElem _
      have hTd : T.getD k 0 = T[k]'hkn := by simp [List.getD, hTk]
      have hrg := hS.range _ (List.mem_of_getElem? hTk)
      obtain ⟨g7, hg7, hBg⟩ : ∃ g, a7 = some ⟨g, 0, none⟩ ∧ B + 1 ≤ g ∧ g < W6.heap.size := by
        rcases OwnInts.form hsw.todo with ⟨h, h2⟩ | ⟨g, c, h, h2, h3, _⟩
        · rw [h2] at hkn; simp at hkn
        · cases h; exact ⟨g, rfl, h2, h3⟩
      subst hg7
      have hcT := OwnInts.cell hsw.todo (k := k) hkn
      rw [hTd] at hcT
      generalize T[k]'hkn = vv at hTk hTd hrg hcT
      obtain ⟨V, rfl⟩ := Int.eq_ofNat_of_zero_le hrg.1
      have hVn : V < nF := by omega
      have hdV : W6.cell? ⟨B, V, none⟩ = some (.bool (M.getD V false)) := OwnBools.cell hsw.met (by rw [hS.len]; exact hVn)
      have hb46 : Below W4.heap.size W4 W6 := by rw [← HB.out]; exact hsw.keep
      obtain ⟨n0, n1⟩ := H4.out.2.2.1.later hb46 (by rw [← HB.out]; omega)
      obtain ⟨y0, y1, y2⟩ := H4.out.2.2.2.later hb46 (by rw [← HB.out]; omega)
      obtain ⟨lT, hlT⟩ : ∃ lT, lT = T.length := ⟨_, rfl⟩
      rw [← hlT] at hkn hsw hsmall hg hki ⊢
      have hlt6 : lT ≤ 40000 := by omega
      have HlT := Lib.hid hlT
      have Hg := Lib.hid hg
      have HS6 := Lib.hid (And.intro hS (And.intro hsw (And.intro hTk hsmall)))
      have hs6 := hsw.size
      clear hS hsw hTk hTd hlT hg hsmall hrg hki HS m0 m1 x4c hb46
      by_cases hVj : V = j
      · subst hVj
        have hd : ((V : Int) == (V : Int)) = true := beq_self_eq_true _
        go_wp2_with (go_quiet (fail))
        go_ret
        have hb6 : Below W0.heap.size W0 W6 := H4.out.1.trans (HS6.out.2.1.keep.mono (by rw [HB.out]; exact H4.out.1.size))
        exact ⟨rfl, below_drewN (H0.out.1.trans (hb6.mono (by rw [← Hs0.out]; omega))) _⟩
      · have hd : ((V : Int) == (j : Int)) = false := by rw [beq_eq_false_iff_ne]; omega
        cases hM : M.getD V false
        · rw [hM] at hdV
          have HM := Lib.hid hM
          have hfz : W6.frozen? ⟨B, V, none⟩ = false := OwnBools.free HS6.out.2.1.met V
          clear hM
          go_upto_region 18 with (go_quiet (fail))
          obtain ⟨WM, hWM⟩ : ∃ WM : World, WM = (W6.drewN nq).setCell ⟨B, V, none⟩ (.bool true) := ⟨_, rfl⟩
          rw [← hWM]
          have hswM : SW B W4 WM nF (M.set V true) (.slice (some ⟨g7, 0, none⟩) lT c7) T := by rw [hWM]; exact (HS6.out.2.1.later (below_draws _ _)).mark V true
          have hcM : WM.cell? ⟨g7, k, none⟩ = some (.int .i64 (V : Int)) := by
            have := OwnInts.cell hswM.todo (k := k) (by rw [← HlT.out]; exact hkn)
            rwa [show T.getD k 0 = (V : Int) by simp [List.getD, HS6.out.2.2.1]] at this
          have hb4M : Below W4.heap.size W4 WM := by rw [← HB.out]; exact hswM.keep
          clear n0 n1 y0 y1 y2 hcT hdV hfz
          obtain ⟨n0, n1⟩ := H4.out.2.2.1.later hb4M (by rw [← HB.out]; omega)
          have hbgM : g7 < WM.heap.size := (World.ownsRow.lt hswM.todo g7 rfl).2
          have hmM : ModIn WM.drew vt (.slice (some ⟨bf, of_, none⟩) nF cf) ts F := H4.out.2.1.later hb4M.drew
          have hwM : WordsIn WM.drew := H0.out.2.2.2.next (H4.out.1.trans (hb4M.drew.mono H4.out.1.size))
          have HswM := Lib.hid hswM
          have HmM := Lib.hid (And.intro hmM.funcs hwM)
          clear hWM hswM hb4M hmM hwM
          go_wp2_with fail
          go_still_tail 5, (by kernel_rfl)
          change wpList _ _ _ _ _ WM.drew
          go_wp2_with fail
          refine (of_any _ _ F (V : Int) _ HmM.out.1 HmM.out.2).mono ?_
          rintro e w7 ⟨vo, rfl, hvo, hb7⟩
          obtain ⟨O, hO⟩ : ∃ O, O = ofFn F (V : Int) := ⟨_, rfl⟩
          rw [← hO] at hvo
          have hOl : O.length ≤ 1024 := by rw [hO]; exact ofFn_len F _
          have hsw7 : SW B W4 w7 nF (M.set V true) (.slice (some ⟨g7, 0, none⟩) lT c7) T := HswM.out.later ((Below.refl _ _).drew.trans hb7)
          obtain ⟨ao, co, rfl, hao⟩ : ∃ ao co, vo = .slice ao O.length co ∧ (0 < O.length → ∃ g, ao = some ⟨g, 0, none⟩) := by
            rcases OwnInts.form hvo with ⟨h, h2⟩ | ⟨g, c, h, _⟩
            · exact ⟨none, 0, by rw [h, h2]; rfl, by rw [h2]; simp⟩
            · exact ⟨_, _, h, fun _ => ⟨g, rfl⟩⟩
          have hvo' : OwnInts w7 0 (.slice ao O.length co) O := ownsRow_mono hvo (Nat.zero_le _)
          obtain ⟨nO, hnO⟩ : ∃ nO, nO = O.length := ⟨_, rfl⟩
          rw [← hnO] at hao hvo' hOl ⊢
          have HO := Lib.hid hO
          have HnO := Lib.hid hnO
          have H7 := Lib.hid (And.intro hsw7 hvo')
          clear hvo hvo' hsw7 hb7 hO hnO n0 n1 hcM hbgM HswM HmM
          go_wp2_with fail
          go_loopw [10] (fun i wi => ∃ q : Nat, q ≤ nO ∧ i = .int .i64 q ∧ Below w7.heap.size w7 wi) (fun i _ => nO - (intOf i).toNat)
          case atStart => exact ⟨0, Nat.zero_le _, rfl, Below.refl _ _⟩
          case round =>
            obtain ⟨q, hq, rfl, hbq⟩ := hrel
            obtain ⟨w8, rfl⟩ : ∃ w8 : World, w8 = wr := ⟨_, rfl⟩
            have hsw8 := H7.out.1.later hbq
            have hvo8 : OwnInts w8 0 (.slice ao nO co) O := ownsRow_below H7.out.2 hbq (Nat.le_refl _)
            have hb48 : Below W4.heap.size W4 w8 := by rw [← HB.out]; exact hsw8.keep
            by_cases hqn : q < nO
            · obtain ⟨go, rfl⟩ := hao (by omega)
              have hoq : O[q]? = some (O[q]'(by rw [← HnO.out]; exact hqn)) := List.getElem?_eq_getElem _
              have hcq := OwnInts.cell hvo8 (k := q) (by rw [← HnO.out]; exact hqn)
              have hOd : O.getD q 0 = O[q]'(by rw [← HnO.out]; exact hqn) := by simp [List.getD, hoq]
              rw [hOd] at hcq
              have hmem : O[q]'(by rw [← HnO.out]; exact hqn) ∈ ofFn F (V : Int) := by rw [← HO.out]; exact List.getElem_mem _
              have hrg := ofFn_range hmem
              generalize O[q]'(by rw [← HnO.out]; exact hqn) = y at hcq hmem hrg hOd hoq
              obtain ⟨Y, rfl⟩ := Int.eq_ofNat_of_zero_le hrg.1
              have hYn : Y < nF := by have := hrg.2; rw [← HnF.out] at this; omega
              have hd1 : decide ((Y : Int) < 0) = false := by simp
              have hd2 : decide ((nF : Int) ≤ (Y : Int)) = false := by simp; omega
              obtain ⟨n0, n1⟩ := H4.out.2.2.1.later hb48 (by rw [← HB.out]; omega)
              have Hbq := Lib.hid hbq
              clear hoq hOd hmem hrg hsw8 hvo8 hb48 hbq
              go_wp2_with (go_quiet (fail))
              go_roundw
              case rel => exact ⟨q + 1, by omega, by go_num, Hbq.out.trans ((below_draws _ _).mono Hbq.out.size)⟩
              case measure => simp [intOf]; omega
            · have hfin := HS6.out.1.push HS6.out.2.2.1 hVj HM.out HnF.out
              rw [← HO.out] at hfin
              have Hfin := Lib.hid hfin
              have Hsrc : Hid (IntsIn w8 (.slice ao nO co) O) := SliceIn.of_owns hvo8
              have HL := Lib.hid hsw8
              have Hll : Hid (T.length + O.length ≤ 1000000000000) := by show _ ≤ _; rw [← HlT.out, ← HnO.out]; omega
              have hsz8 : B + 1 ≤ w8.heap.size := hsw8.size
              clear hfin hvo8 hb48 hbq hsw8
              go_wp2_with (at_builtin; refine append_ints rfl _ _ rfl (B + 1) (.slice (some ⟨g7, 0, none⟩) lT c7) T rfl HL.out.todo _ O rfl Hsrc.out Hll.out hsz8 ?_)
              intro v9 w9 ho9 hg9 hf9 hb9
              have hform : ∃ a c, v9 = .slice a (T ++ O).length c := by
                rcases OwnInts.form ho9 with ⟨h, h2⟩ | ⟨g, c, h, _⟩
                · exact ⟨none, 0, by rw [h, h2]; rfl⟩
                · exact ⟨_, _, h⟩
              have hsw9 : SW B W4 w9 nF (M.set V true) v9 (T ++ O) := ⟨HL.out.met.kept hg9 (.inr (by simp [Value.ownBlock]; omega)), ho9, hb9 _ _ HL.out.keep (by omega), Nat.le_trans hsz8 hg9.size⟩
              have H9 := Lib.hid (And.intro hsw9 hform)
              clear ho9 hg9 hf9 hb9 hform hsw9
              go_wp2_with fail
              go_roundg ((T ++ O).length - (k + 1) + 1025 * (M.set V true).count false)
              case measure => have h1 := Hg.out; have h2 := Hfin.out.2; have h3 := HlT.out; have h4 : T.length ≤ (T ++ O).length := (by simp); omega
              case rel => exact ⟨T ++ O, k + 1, M.set V true, Hfin.out.1, rfl, by go_num, H9.out.2, H9.out.1⟩
        · rw [hM] at hdV
          have HM := Lib.hid hM
          clear hM
          go_wp2_with (go_quiet (fail))
          go_roundg (lT - (k + 1) + 1025 * M.count false)
          case measure => have := Hg.out; omega
          case rel => exact ⟨T, k + 1, M, HS6.out.1.skip HS6.out.2.2.1 hVj HM.out, by rw [← HlT.out], by go_num, ⟨_, _, by rw [← HlT.out]⟩, HS6.out.2.1.later (below_draws _ _)⟩
    · exfalso
      have ek : k = T.length := by omega
      subst ek
      exact hS.found Hback.out
end Go.Proofs.YtggkeodoenhmoaaDoor
