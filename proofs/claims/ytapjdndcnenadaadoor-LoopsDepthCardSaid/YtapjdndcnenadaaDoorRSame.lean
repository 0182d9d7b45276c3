/- The reference's Same: two lists of loops. -/
import Derived.Test.YtapjdndcnenadaaDoorRDepth
import Derived.Test.YtapjdndcnenadaaDoorSame14
import Derived.Deep.RegionHeld3
namespace Go.Proofs.YtapjdndcnenadaaDoor
open Go.RowKit

/-- What is compared of a loop. -/
def LP.key (x : LP) : Int × Int × List Int × List Int := (x.head, x.parent, x.mem, x.backs)

set_option maxRecDepth 100000 in
set_option maxHeartbeats 3000000 in
theorem rsame_any (va vb : Value) (la lb : List LP) (w : World) (ha : LoopsIn w va la) (hb : LoopsIn w vb lb) (hla : la.length ≤ 1000000) (hlb : lb.length ≤ 1000000)
    (hma : ∀ x ∈ la, x.mem.length ≤ 1000000 ∧ x.backs.length ≤ 1000000) (hmb : ∀ x ∈ lb, x.mem.length ≤ 1000000 ∧ x.backs.length ≤ 1000000) :
    Calls Tryd.prog 10 #[va, vb] w (Reads (.bool (decide (la.map LP.key = lb.map LP.key))) w) := by
  obtain ⟨aa, ca, rfl, -, haa⟩ := ha.form
  obtain ⟨ab, cb, rfl, -, hab⟩ := hb.form
  have Ha := Lib.hid ha
  have Hb := Lib.hid hb
  obtain ⟨na, hna⟩ : ∃ n, n = la.length := ⟨_, rfl⟩
  obtain ⟨nb, hnb⟩ : ∃ n, n = lb.length := ⟨_, rfl⟩
  rw [← hna] at hla haa ⊢
  rw [← hnb] at hlb hab ⊢
  have Hn := Lib.hid (And.intro hna hnb)
  have Hm := Lib.hid (And.intro hma hmb)
  clear ha hb hna hnb hma hmb
  by_cases hab' : na = nb
  · have hq0 : ((na : Int) != (nb : Int)) = false := by simp [hab']
    subst hab'
    go_enter Tryd.func10, Tryd.ntmps10
    go_wp2_with fail
    go_loopw [5] (fun i wi => ∃ (k q : Nat), k ≤ na ∧ i = .int .i64 (k : Int) ∧ (la.map LP.key).take k = (lb.map LP.key).take k ∧ wi = w.drewN q) (fun i _ => na - (intOf i).toNat)
    case atStart => exact ⟨0, 0, Nat.zero_le _, rfl, by simp, rfl⟩
    case round =>
      obtain ⟨k, q, hk, rfl, htk, hwr⟩ := hrel
      subst hwr
      by_cases hkn : k < na
      · obtain ⟨ga, oa, rfl, hga⟩ := haa (by omega)
        obtain ⟨gb, ob, rfl, hgb⟩ := hab (by omega)
        obtain ⟨x, hx⟩ : ∃ x, la[k]? = some x := ⟨_, List.getElem?_eq_getElem (by rw [← Hn.out.1]; exact hkn)⟩
        obtain ⟨y, hy⟩ : ∃ y, lb[k]? = some y := ⟨_, List.getElem?_eq_getElem (by rw [← Hn.out.2]; exact hkn)⟩
        have hA := Ha.out
        have hB := Hb.out
        rw [← Hn.out.1] at hA
        rw [← Hn.out.2] at hB
        obtain ⟨a0, a1, a2, a3⟩ := hA.at' hx
        obtain ⟨b0, b1, b2, b3⟩ := hB.at' hy
        obtain ⟨hxm, hxb⟩ := hA.each x (List.mem_of_getElem? hx)
        obtain ⟨hym, hyb⟩ := hB.each y (List.mem_of_getElem? hy)
        obtain ⟨lxm, lxb⟩ := Hm.out.1 x (List.mem_of_getElem? hx)
        obtain ⟨lym, lyb⟩ := Hm.out.2 y (List.mem_of_getElem? hy)
        have hkx : (la.map LP.key)[k]? = some x.key := by rw [List.getElem?_map, hx]; rfl
        have hky : (lb.map LP.key)[k]? = some y.key := by rw [List.getElem?_map, hy]; rfl
        obtain ⟨xh, xp, xvm, xvb, xm, xb⟩ := x
        obtain ⟨yh, yp, yvm, yvb, ym, yb⟩ := y
        simp only at a0 a1 a2 a3 b0 b1 b2 b3 hxm hxb hym hyb lxm lxb lym lyb
        have HX := Lib.hid (And.intro hxm (And.intro hxb (And.intro hym hyb)))
        have HL : Hid (xm.length ≤ 1000000000000000 ∧ xb.length ≤ 1000000000000000 ∧ ym.length ≤ 1000000000000000 ∧ yb.length ≤ 1000000000000000) := ⟨by omega, by omega, by omega, by omega⟩
        have HK := Lib.hid (And.intro hkx (And.intro hky htk))
        have hdiff : LP.key ⟨xh, xp, xvm, xvb, xm, xb⟩ ≠ LP.key ⟨yh, yp, yvm, yvb, ym, yb⟩ → ¬ la.map LP.key = lb.map LP.key := fun hne e => by
          have h1 := HK.out.1
          rw [e, HK.out.2.1] at h1
          exact hne (Option.some.inj h1).symm
        have Hdiff := Lib.hid hdiff
        clear hx hy hA hB hxm hxb hym hyb lxm lxb lym lyb hkx hky htk hdiff
        go_upto_region 6 with (fail)
        refine wp_region_held (S := fun W' => ∃ n0, W' = w.drewN n0) rfl ?_
        change wpAnyH _ _ _ _ (fun W' => ∃ n0, W' = w.drewN n0) _ _ _ (w.drewN q).drew
        obtain ⟨W0, hW0⟩ : ∃ W0, W0 = (w.drewN q).drew := ⟨_, rfl⟩
        rw [← hW0]
        have Hb : Hid (∃ n0, W0 = w.drewN n0) := ⟨q + 1, by rw [hW0]; rfl⟩
        clear hW0
        by_cases h0 : xh = yh
        · have q1 : (xh != yh) = false := by simp [h0]
          by_cases h1 : xp = yp
          · have q2 : (xp != yp) = false := by simp [h1]
            by_cases h2 : xm = ym
            · have q3 : decide (xm = ym) = true := by simp [h2]
              by_cases h3 : xb = yb
              · have q4 : decide (xb = yb) = true := by simp [h3]
                have Heq : Hid (LP.key ⟨xh, xp, xvm, xvb, xm, xb⟩ = LP.key ⟨yh, yp, yvm, yvb, ym, yb⟩) := by show (_, _, _, _) = (_, _, _, _); rw [h0, h1, h2, h3]
                clear h0 h1 h2 h3
                refine wpAnyH_take (i := 0) (by simp only [List.getElem?_toArray, List.getElem?_cons_zero]; rfl) (by kernel_rfl) (by kernel_rfl) (by kernel_rfl) (by intro _ _ _ h; exact h) (Or.inl ⟨by first | rfl | go_simp, fun w hw => by (obtain ⟨n0, rfl⟩ := hw; go_simp; try rfl)⟩) Hb.out ?_
                refine wpAnyH_take (i := 1) (by simp only [List.getElem?_toArray, List.getElem?_cons_succ, List.getElem?_cons_zero]; rfl) (by kernel_rfl) (by kernel_rfl) (by kernel_rfl) (by intro _ _ _ h; exact h) (Or.inl ⟨by first | rfl | go_simp, fun w hw => by (obtain ⟨n0, rfl⟩ := hw; go_simp; try rfl)⟩) Hb.out ?_
                try go_frame
                refine wpAnyH_take (i := 2) (by simp only [List.getElem?_toArray, List.getElem?_cons_succ, List.getElem?_cons_zero]; rfl) (by kernel_rfl) (by kernel_rfl) (by kernel_rfl) (by intro _ _ _ h; exact h) (Or.inl ⟨by first | rfl | go_simp, fun w hw => by (obtain ⟨n0, rfl⟩ := hw; go_simp; try rfl)⟩) Hb.out ?_
                refine wpAnyH_take (i := 3) (by simp only [List.getElem?_toArray, List.getElem?_cons_succ, List.getElem?_cons_zero]; rfl) (by kernel_rfl) (by kernel_rfl) (by kernel_rfl) (by intro _ _ _ h; exact h) (Or.inl ⟨by first | rfl | go_simp, fun w hw => by (obtain ⟨n0, rfl⟩ := hw; go_simp; try rfl)⟩) Hb.out ?_
                try go_frame
                refine wpAnyH_take (i := 4) (by simp only [List.getElem?_toArray, List.getElem?_cons_succ, List.getElem?_cons_zero]; rfl) (by kernel_rfl) (by kernel_rfl) (by kernel_rfl) (by intro _ _ _ h; exact h) (Or.inl ⟨by first | rfl | go_simp, fun w hw => by (obtain ⟨n0, rfl⟩ := hw; go_simp; try rfl)⟩) Hb.out ?_
                refine wpAnyH_take (i := 5) (by simp only [List.getElem?_toArray, List.getElem?_cons_succ, List.getElem?_cons_zero]; rfl) (by kernel_rfl) (by kernel_rfl) (by kernel_rfl) (by intro _ _ _ h; exact h) (Or.inl ⟨by first | rfl | go_simp, fun w hw => by (obtain ⟨n0, rfl⟩ := hw; go_simp; try rfl)⟩) Hb.out ?_
                try go_frame
                refine wpAnyH_take (i := 6) (by simp only [List.getElem?_toArray, List.getElem?_cons_succ, List.getElem?_cons_zero]; rfl) (by kernel_rfl) (by kernel_rfl) (by kernel_rfl) (by intro _ _ _ h; exact h) (Or.inl ⟨by first | rfl | go_simp, fun w hw => by (obtain ⟨n0, rfl⟩ := hw; go_simp; try rfl)⟩) Hb.out ?_
                refine wpAnyH_take (i := 7) (by simp only [List.getElem?_toArray, List.getElem?_cons_succ, List.getElem?_cons_zero]; rfl) (by kernel_rfl) (by kernel_rfl) (by kernel_rfl) (by intro _ _ _ h; exact h) (Or.inl ⟨by first | rfl | go_simp, fun w hw => by (obtain ⟨n0, rfl⟩ := hw; go_simp; try rfl)⟩) Hb.out ?_
                try go_frame
                refine wpAnyH_take (i := 8) (by simp only [List.getElem?_toArray, List.getElem?_cons_succ, List.getElem?_cons_zero]; rfl) (by kernel_rfl) (by kernel_rfl) (by kernel_rfl) (by intro _ _ _ h; exact h) (Or.inl ⟨by first | rfl | go_simp, fun w hw => by (obtain ⟨n0, rfl⟩ := hw; go_simp; try rfl)⟩) Hb.out ?_
                refine wpAnyH_take (i := 9) (by simp only [List.getElem?_toArray, List.getElem?_cons_succ, List.getElem?_cons_zero]; rfl) (by kernel_rfl) (by kernel_rfl) (by kernel_rfl) (by intro _ _ _ h; exact h) (Or.inl ⟨by first | rfl | go_simp, fun w hw => by (obtain ⟨n0, rfl⟩ := hw; go_simp; try rfl)⟩) Hb.out ?_
                try go_frame
                refine wpAnyH_take (i := 10) (by simp only [List.getElem?_toArray, List.getElem?_cons_succ, List.getElem?_cons_zero]; rfl) (by kernel_rfl) (by kernel_rfl) (by kernel_rfl) (by intro _ _ _ h; exact h) (Or.inl ⟨by first | rfl | go_simp, fun w hw => by (obtain ⟨n0, rfl⟩ := hw; go_simp; try rfl)⟩) Hb.out ?_
                refine wpAnyH_take (i := 11) (by simp only [List.getElem?_toArray, List.getElem?_cons_succ, List.getElem?_cons_zero]; rfl) (by kernel_rfl) (by kernel_rfl) (by kernel_rfl) (by intro _ _ _ h; exact h) (Or.inl ⟨by first | rfl | go_simp, fun w hw => by (obtain ⟨n0, rfl⟩ := hw; go_simp; try rfl)⟩) Hb.out ?_
                try go_frame
                refine wpAnyH_take (i := 12) (by simp only [List.getElem?_toArray, List.getElem?_cons_succ, List.getElem?_cons_zero]; rfl) (by kernel_rfl) (by kernel_rfl) (by kernel_rfl) (by intro _ _ _ h; exact h) (Or.inl ⟨by first | rfl | go_simp, fun w hw => by (obtain ⟨n0, rfl⟩ := hw; go_simp; try rfl)⟩) Hb.out ?_
                refine wpAnyH_take (i := 13) (by simp only [List.getElem?_toArray, List.getElem?_cons_succ, List.getElem?_cons_zero]; rfl) (by kernel_rfl) (by kernel_rfl) (by kernel_rfl) (by intro _ _ _ h; exact h) (Or.inl ⟨by first | rfl | go_simp, fun w hw => by (obtain ⟨n0, rfl⟩ := hw; go_simp; try rfl)⟩) Hb.out ?_
                try go_frame
                refine wpAnyH_take (i := 14) (by simp only [List.getElem?_toArray, List.getElem?_cons_succ, List.getElem?_cons_zero]; rfl) (by kernel_rfl) (by kernel_rfl) (by kernel_rfl) (by intro _ _ _ h; exact h) (Or.inl ⟨by first | rfl | go_simp, fun w hw => by (obtain ⟨n0, rfl⟩ := hw; go_simp; try rfl)⟩) Hb.out ?_
                refine wpAnyH_take (i := 15) (by simp only [List.getElem?_toArray, List.getElem?_cons_succ, List.getElem?_cons_zero]; rfl) (by kernel_rfl) (by kernel_rfl) (by kernel_rfl) (by intro _ _ _ h; exact h) (Or.inl ⟨by first | rfl | go_simp, fun w hw => by (obtain ⟨n0, rfl⟩ := hw; go_simp; try rfl)⟩) Hb.out ?_
                try go_frame
                refine wpAnyH_take (i := 16) (by simp only [List.getElem?_toArray, List.getElem?_cons_succ, List.getElem?_cons_zero]; rfl) (by kernel_rfl) (by kernel_rfl) (by kernel_rfl) (by intro _ _ _ h; exact h) (Or.inl ⟨by first | rfl | go_simp, fun w hw => by (obtain ⟨n0, rfl⟩ := hw; go_simp; try rfl)⟩) Hb.out ?_
                refine wpAnyH_take (i := 17) (by simp only [List.getElem?_toArray, List.getElem?_cons_succ, List.getElem?_cons_zero]; rfl) (by kernel_rfl) (by kernel_rfl) (by kernel_rfl) (by intro _ _ _ h; exact h) (Or.inl ⟨by first | rfl | go_simp, fun w hw => by (obtain ⟨n0, rfl⟩ := hw; go_simp; try rfl)⟩) Hb.out ?_
                try go_frame
                refine wpAnyH_take (i := 18) (by simp only [List.getElem?_toArray, List.getElem?_cons_succ, List.getElem?_cons_zero]; rfl) (by kernel_rfl) (by kernel_rfl) (by kernel_rfl) (by intro _ _ _ h; exact h) (Or.inl ⟨by first | rfl | go_simp, fun w hw => by (obtain ⟨n0, rfl⟩ := hw; go_simp; try rfl)⟩) Hb.out ?_
                refine wpAnyH_take (i := 19) (by simp only [List.getElem?_toArray, List.getElem?_cons_succ, List.getElem?_cons_zero]; rfl) (by kernel_rfl) (by kernel_rfl) (by kernel_rfl) (by intro _ _ _ h; exact h) (Or.inl ⟨by first | rfl | go_simp, fun w hw => by (obtain ⟨n0, rfl⟩ := hw; go_simp; try rfl)⟩) Hb.out ?_
                try go_frame
                refine wpAnyH_take (i := 20) (by simp only [List.getElem?_toArray, List.getElem?_cons_succ, List.getElem?_cons_zero]; rfl) (by kernel_rfl) (by kernel_rfl) (by kernel_rfl) (by intro _ _ _ h; exact h) (Or.inl ⟨by first | rfl | go_simp, fun w hw => by (obtain ⟨n0, rfl⟩ := hw; go_simp; try rfl)⟩) Hb.out ?_
                refine wpAnyH_take (i := 21) (by simp only [List.getElem?_toArray, List.getElem?_cons_succ, List.getElem?_cons_zero]; rfl) (by kernel_rfl) (by kernel_rfl) (by kernel_rfl) (by intro _ _ _ h; exact h) (Or.inl ⟨by first | rfl | go_simp, fun w hw => by (obtain ⟨n0, rfl⟩ := hw; go_simp; try rfl)⟩) Hb.out ?_
                try go_frame
                refine wpAnyH_take (i := 22) (by simp only [List.getElem?_toArray, List.getElem?_cons_succ, List.getElem?_cons_zero]; rfl) (by kernel_rfl) (by kernel_rfl) (by kernel_rfl) (by intro _ _ _ h; exact h) (Or.inl ⟨by first | rfl | go_simp, fun w hw => by (obtain ⟨n0, rfl⟩ := hw; go_simp; try rfl)⟩) Hb.out ?_
                refine wpAnyH_take (i := 23) (by simp only [List.getElem?_toArray, List.getElem?_cons_succ, List.getElem?_cons_zero]; rfl) (by kernel_rfl) (by kernel_rfl) (by kernel_rfl) (by intro _ _ _ h; exact h) (Or.inl ⟨by first | rfl | go_simp, fun w hw => by (obtain ⟨n0, rfl⟩ := hw; go_simp; try rfl)⟩) Hb.out ?_
                try go_frame
                refine wpAnyH_take (i := 24) (by simp only [List.getElem?_toArray, List.getElem?_cons_succ, List.getElem?_cons_zero]; rfl) (by kernel_rfl) (by kernel_rfl) (by kernel_rfl) (by intro _ _ _ h; exact h) (Or.inl ⟨by first | rfl | go_simp, fun w hw => by (obtain ⟨n0, rfl⟩ := hw; go_simp; try rfl)⟩) Hb.out ?_
                refine wpAnyH_take (i := 25) (by simp only [List.getElem?_toArray, List.getElem?_cons_succ, List.getElem?_cons_zero]; rfl) (by kernel_rfl) (by kernel_rfl) (by kernel_rfl) (by intro _ _ _ h; exact h) (Or.inl ⟨by first | rfl | go_simp, fun w hw => by (obtain ⟨n0, rfl⟩ := hw; go_simp; try rfl)⟩) Hb.out ?_
                try go_frame
                refine wpAnyH_take (i := 26) (by simp only [List.getElem?_toArray, List.getElem?_cons_succ, List.getElem?_cons_zero]; rfl) (by kernel_rfl) (by kernel_rfl) (by kernel_rfl) (by intro _ _ _ h; exact h) (Or.inl ⟨by first | rfl | go_simp, fun w hw => by (obtain ⟨n0, rfl⟩ := hw; go_simp; try rfl)⟩) Hb.out ?_
                refine wpAnyH_take (i := 27) (by simp only [List.getElem?_toArray, List.getElem?_cons_succ, List.getElem?_cons_zero]; rfl) (by kernel_rfl) (by kernel_rfl) (by kernel_rfl) (by intro _ _ _ h; exact h) (Or.inl ⟨by first | rfl | go_simp, fun w hw => by (obtain ⟨n0, rfl⟩ := hw; go_simp; try rfl)⟩) Hb.out ?_
                try go_frame
                refine wpAnyH_take (i := 28) (by simp only [List.getElem?_toArray, List.getElem?_cons_succ, List.getElem?_cons_zero]; rfl) (by kernel_rfl) (by kernel_rfl) (by kernel_rfl) (by intro _ _ _ h; exact h) (Or.inl ⟨by first | rfl | go_simp, fun w hw => by (obtain ⟨n0, rfl⟩ := hw; go_simp; try rfl)⟩) Hb.out ?_
                refine wpAnyH_take (i := 29) (by simp only [List.getElem?_toArray, List.getElem?_cons_succ, List.getElem?_cons_zero]; rfl) (by kernel_rfl) (by kernel_rfl) (by kernel_rfl) (by intro _ _ _ h; exact h) (Or.inl ⟨by first | rfl | go_simp, fun w hw => by (obtain ⟨n0, rfl⟩ := hw; go_simp; try rfl)⟩) Hb.out ?_
                try go_frame
                refine wpAnyH_take (i := 30) (by simp only [List.getElem?_toArray, List.getElem?_cons_succ, List.getElem?_cons_zero]; rfl) (by kernel_rfl) (by kernel_rfl) (by kernel_rfl) (by intro _ _ _ h; exact h) (Or.inl ⟨by first | rfl | go_simp, fun w hw => by (obtain ⟨n0, rfl⟩ := hw; go_simp; try rfl)⟩) Hb.out ?_
                refine wpAnyH_take (i := 31) (by simp only [List.getElem?_toArray, List.getElem?_cons_succ, List.getElem?_cons_zero]; rfl) (by kernel_rfl) (by kernel_rfl) (by kernel_rfl) (by intro _ _ _ h; exact h) (Or.inl ⟨by first | rfl | go_simp, fun w hw => by (obtain ⟨n0, rfl⟩ := hw; go_simp; try rfl)⟩) Hb.out ?_
                try go_frame
                refine wpAnyH_take (i := 32) (by simp only [List.getElem?_toArray, List.getElem?_cons_succ, List.getElem?_cons_zero]; rfl) (by kernel_rfl) (by kernel_rfl) (by kernel_rfl) (by intro _ _ _ h; exact h) (Or.inl ⟨by first | rfl | go_simp, fun w hw => by (obtain ⟨n0, rfl⟩ := hw; go_simp; try rfl)⟩) Hb.out ?_
                refine wpAnyH_take (i := 33) (by simp only [List.getElem?_toArray, List.getElem?_cons_succ, List.getElem?_cons_zero]; rfl) (by kernel_rfl) (by kernel_rfl) (by kernel_rfl) (by intro _ _ _ h; exact h) (Or.inl ⟨by first | rfl | go_simp, fun w hw => by (obtain ⟨n0, rfl⟩ := hw; go_simp; try rfl)⟩) Hb.out ?_
                try go_frame
                refine wpAnyH_take (i := 34) (by simp only [List.getElem?_toArray, List.getElem?_cons_succ, List.getElem?_cons_zero]; rfl) (by kernel_rfl) (by kernel_rfl) (by kernel_rfl) (by intro _ _ _ h; exact h) (Or.inl ⟨by first | rfl | go_simp, fun w hw => by (obtain ⟨n0, rfl⟩ := hw; go_simp; try rfl)⟩) Hb.out ?_
                refine wpAnyH_ready (rs := [35]) (by kernel_rfl) (by simp) ?_
                refine AllReadyH.cons rfl (fun K hK => ?_) AllReadyH.nil
                go_simp
                refine (sameInts14_any _ _ xm ym _ (by obtain ⟨n0, e⟩ := Hb.out; rw [e]; exact SliceIn.later HX.out.1 (below_draws _ _)) (by obtain ⟨n0, e⟩ := Hb.out; rw [e]; exact SliceIn.later HX.out.2.2.1 (below_draws _ _)) HL.out.1 HL.out.2.2.1).mono ?_
                rintro e w1 ⟨rfl, n1, hw1⟩
                dsimp only
                have Hb : Hid (∃ n0, w1 = w.drewN n0) := by obtain ⟨n0, e⟩ := Hb.out; exact ⟨n0 + n1, by rw [hw1, e, World.drewN_drewN]⟩
                refine hK.out _ _ Hb.out (fun _ => ?_)
                clear hK K hw1
                try go_frame
                try go_frame
                refine wpAnyH_take (i := 36) (by simp only [List.getElem?_toArray, List.getElem?_cons_succ, List.getElem?_cons_zero]; rfl) (by kernel_rfl) (by kernel_rfl) (by kernel_rfl) (by intro _ _ _ h; exact h) (Or.inl ⟨by first | rfl | go_simp, fun w hw => by (obtain ⟨n0, rfl⟩ := hw; go_simp; try rfl)⟩) Hb.out ?_
                refine wpAnyH_take (i := 37) (by simp only [List.getElem?_toArray, List.getElem?_cons_succ, List.getElem?_cons_zero]; rfl) (by kernel_rfl) (by kernel_rfl) (by kernel_rfl) (by intro _ _ _ h; exact h) (Or.inl ⟨by first | rfl | go_simp, fun w hw => by (obtain ⟨n0, rfl⟩ := hw; go_simp; try rfl)⟩) Hb.out ?_
                try go_frame
                refine wpAnyH_take (i := 38) (by simp only [List.getElem?_toArray, List.getElem?_cons_succ, List.getElem?_cons_zero]; rfl) (by kernel_rfl) (by kernel_rfl) (by kernel_rfl) (by intro _ _ _ h; exact h) (Or.inl ⟨by first | rfl | go_simp, fun w hw => by (obtain ⟨n0, rfl⟩ := hw; go_simp; try rfl)⟩) Hb.out ?_
                refine wpAnyH_take (i := 39) (by simp only [List.getElem?_toArray, List.getElem?_cons_succ, List.getElem?_cons_zero]; rfl) (by kernel_rfl) (by kernel_rfl) (by kernel_rfl) (by intro _ _ _ h; exact h) (Or.inl ⟨by first | rfl | go_simp, fun w hw => by (obtain ⟨n0, rfl⟩ := hw; go_simp; try rfl)⟩) Hb.out ?_
                try go_frame
                refine wpAnyH_take (i := 40) (by simp only [List.getElem?_toArray, List.getElem?_cons_succ, List.getElem?_cons_zero]; rfl) (by kernel_rfl) (by kernel_rfl) (by kernel_rfl) (by intro _ _ _ h; exact h) (Or.inl ⟨by first | rfl | go_simp, fun w hw => by (obtain ⟨n0, rfl⟩ := hw; go_simp; try rfl)⟩) Hb.out ?_
                refine wpAnyH_take (i := 41) (by simp only [List.getElem?_toArray, List.getElem?_cons_succ, List.getElem?_cons_zero]; rfl) (by kernel_rfl) (by kernel_rfl) (by kernel_rfl) (by intro _ _ _ h; exact h) (Or.inl ⟨by first | rfl | go_simp, fun w hw => by (obtain ⟨n0, rfl⟩ := hw; go_simp; try rfl)⟩) Hb.out ?_
                try go_frame
                refine wpAnyH_take (i := 42) (by simp only [List.getElem?_toArray, List.getElem?_cons_succ, List.getElem?_cons_zero]; rfl) (by kernel_rfl) (by kernel_rfl) (by kernel_rfl) (by intro _ _ _ h; exact h) (Or.inl ⟨by first | rfl | go_simp, fun w hw => by (obtain ⟨n0, rfl⟩ := hw; go_simp; try rfl)⟩) Hb.out ?_
                refine wpAnyH_take (i := 43) (by simp only [List.getElem?_toArray, List.getElem?_cons_succ, List.getElem?_cons_zero]; rfl) (by kernel_rfl) (by kernel_rfl) (by kernel_rfl) (by intro _ _ _ h; exact h) (Or.inl ⟨by first | rfl | go_simp, fun w hw => by (obtain ⟨n0, rfl⟩ := hw; go_simp; try rfl)⟩) Hb.out ?_
                try go_frame
                refine wpAnyH_take (i := 44) (by simp only [List.getElem?_toArray, List.getElem?_cons_succ, List.getElem?_cons_zero]; rfl) (by kernel_rfl) (by kernel_rfl) (by kernel_rfl) (by intro _ _ _ h; exact h) (Or.inl ⟨by first | rfl | go_simp, fun w hw => by (obtain ⟨n0, rfl⟩ := hw; go_simp; try rfl)⟩) Hb.out ?_
                refine wpAnyH_take (i := 45) (by simp only [List.getElem?_toArray, List.getElem?_cons_succ, List.getElem?_cons_zero]; rfl) (by kernel_rfl) (by kernel_rfl) (by kernel_rfl) (by intro _ _ _ h; exact h) (Or.inl ⟨by first | rfl | go_simp, fun w hw => by (obtain ⟨n0, rfl⟩ := hw; go_simp; try rfl)⟩) Hb.out ?_
                try go_frame
                refine wpAnyH_take (i := 46) (by simp only [List.getElem?_toArray, List.getElem?_cons_succ, List.getElem?_cons_zero]; rfl) (by kernel_rfl) (by kernel_rfl) (by kernel_rfl) (by intro _ _ _ h; exact h) (Or.inl ⟨by first | rfl | go_simp, fun w hw => by (obtain ⟨n0, rfl⟩ := hw; go_simp; try rfl)⟩) Hb.out ?_
                refine wpAnyH_take (i := 47) (by simp only [List.getElem?_toArray, List.getElem?_cons_succ, List.getElem?_cons_zero]; rfl) (by kernel_rfl) (by kernel_rfl) (by kernel_rfl) (by intro _ _ _ h; exact h) (Or.inl ⟨by first | rfl | go_simp, fun w hw => by (obtain ⟨n0, rfl⟩ := hw; go_simp; try rfl)⟩) Hb.out ?_
                try go_frame
                refine wpAnyH_take (i := 48) (by simp only [List.getElem?_toArray, List.getElem?_cons_succ, List.getElem?_cons_zero]; rfl) (by kernel_rfl) (by kernel_rfl) (by kernel_rfl) (by intro _ _ _ h; exact h) (Or.inl ⟨by first | rfl | go_simp, fun w hw => by (obtain ⟨n0, rfl⟩ := hw; go_simp; try rfl)⟩) Hb.out ?_
                refine wpAnyH_ready (rs := [49]) (by kernel_rfl) (by simp) ?_
                refine AllReadyH.cons rfl (fun K hK => ?_) AllReadyH.nil
                go_simp
                refine (sameInts14_any _ _ xb yb _ (by obtain ⟨n0, e⟩ := Hb.out; rw [e]; exact SliceIn.later HX.out.2.1 (below_draws _ _)) (by obtain ⟨n0, e⟩ := Hb.out; rw [e]; exact SliceIn.later HX.out.2.2.2 (below_draws _ _)) HL.out.2.1 HL.out.2.2.2).mono ?_
                rintro e w1 ⟨rfl, n1, hw1⟩
                dsimp only
                have Hb : Hid (∃ n0, w1 = w.drewN n0) := by obtain ⟨n0, e⟩ := Hb.out; exact ⟨n0 + n1, by rw [hw1, e, World.drewN_drewN]⟩
                refine hK.out _ _ Hb.out (fun _ => ?_)
                clear hK K hw1
                try go_frame
                try go_frame
                refine wpAnyH_take (i := 50) (by simp only [List.getElem?_toArray, List.getElem?_cons_succ, List.getElem?_cons_zero]; rfl) (by kernel_rfl) (by kernel_rfl) (by kernel_rfl) (by intro _ _ _ h; exact h) (Or.inl ⟨by first | rfl | go_simp, fun w hw => by (obtain ⟨n0, rfl⟩ := hw; go_simp; try rfl)⟩) Hb.out ?_
                refine wpAnyH_take (i := 51) (by simp only [List.getElem?_toArray, List.getElem?_cons_succ, List.getElem?_cons_zero]; rfl) (by kernel_rfl) (by kernel_rfl) (by kernel_rfl) (by intro _ _ _ h; exact h) (Or.inl ⟨by first | rfl | go_simp, fun w hw => by (obtain ⟨n0, rfl⟩ := hw; go_simp; try rfl)⟩) Hb.out ?_
                try go_frame
                refine wpAnyH_done (by kernel_rfl) ?_ _
                (obtain ⟨n0, rfl⟩ := Hb.out; go_wp2_with fail; go_roundw; (case rel => exact ⟨k + 1, n0, hkn, by go_num, by (rw [List.take_add_one, List.take_add_one, HK.out.1, HK.out.2.1, HK.out.2.2, Heq.out]), rfl⟩); (case measure => (simp [intOf]; omega)))
              · have q4 : decide (xb = yb) = false := by simp [h3]
                have Hres := Lib.hid (Hdiff.out (fun e => h3 (congrArg (fun z => z.2.2.2) e)))
                clear h0 h1 h2 h3
                refine wpAnyH_take (i := 0) (by simp only [List.getElem?_toArray, List.getElem?_cons_zero]; rfl) (by kernel_rfl) (by kernel_rfl) (by kernel_rfl) (by intro _ _ _ h; exact h) (Or.inl ⟨by first | rfl | go_simp, fun w hw => by (obtain ⟨n0, rfl⟩ := hw; go_simp; try rfl)⟩) Hb.out ?_
                refine wpAnyH_take (i := 1) (by simp only [List.getElem?_toArray, List.getElem?_cons_succ, List.getElem?_cons_zero]; rfl) (by kernel_rfl) (by kernel_rfl) (by kernel_rfl) (by intro _ _ _ h; exact h) (Or.inl ⟨by first | rfl | go_simp, fun w hw => by (obtain ⟨n0, rfl⟩ := hw; go_simp; try rfl)⟩) Hb.out ?_
                try go_frame
                refine wpAnyH_take (i := 2) (by simp only [List.getElem?_toArray, List.getElem?_cons_succ, List.getElem?_cons_zero]; rfl) (by kernel_rfl) (by kernel_rfl) (by kernel_rfl) (by intro _ _ _ h; exact h) (Or.inl ⟨by first | rfl | go_simp, fun w hw => by (obtain ⟨n0, rfl⟩ := hw; go_simp; try rfl)⟩) Hb.out ?_
                refine wpAnyH_take (i := 3) (by simp only [List.getElem?_toArray, List.getElem?_cons_succ, List.getElem?_cons_zero]; rfl) (by kernel_rfl) (by kernel_rfl) (by kernel_rfl) (by intro _ _ _ h; exact h) (Or.inl ⟨by first | rfl | go_simp, fun w hw => by (obtain ⟨n0, rfl⟩ := hw; go_simp; try rfl)⟩) Hb.out ?_
                try go_frame
                refine wpAnyH_take (i := 4) (by simp only [List.getElem?_toArray, List.getElem?_cons_succ, List.getElem?_cons_zero]; rfl) (by kernel_rfl) (by kernel_rfl) (by kernel_rfl) (by intro _ _ _ h; exact h) (Or.inl ⟨by first | rfl | go_simp, fun w hw => by (obtain ⟨n0, rfl⟩ := hw; go_simp; try rfl)⟩) Hb.out ?_
                refine wpAnyH_take (i := 5) (by simp only [List.getElem?_toArray, List.getElem?_cons_succ, List.getElem?_cons_zero]; rfl) (by kernel_rfl) (by kernel_rfl) (by kernel_rfl) (by intro _ _ _ h; exact h) (Or.inl ⟨by first | rfl | go_simp, fun w hw => by (obtain ⟨n0, rfl⟩ := hw; go_simp; try rfl)⟩) Hb.out ?_
                try go_frame
                refine wpAnyH_take (i := 6) (by simp only [List.getElem?_toArray, List.getElem?_cons_succ, List.getElem?_cons_zero]; rfl) (by kernel_rfl) (by kernel_rfl) (by kernel_rfl) (by intro _ _ _ h; exact h) (Or.inl ⟨by first | rfl | go_simp, fun w hw => by (obtain ⟨n0, rfl⟩ := hw; go_simp; try rfl)⟩) Hb.out ?_
                refine wpAnyH_take (i := 7) (by simp only [List.getElem?_toArray, List.getElem?_cons_succ, List.getElem?_cons_zero]; rfl) (by kernel_rfl) (by kernel_rfl) (by kernel_rfl) (by intro _ _ _ h; exact h) (Or.inl ⟨by first | rfl | go_simp, fun w hw => by (obtain ⟨n0, rfl⟩ := hw; go_simp; try rfl)⟩) Hb.out ?_
                try go_frame
                refine wpAnyH_take (i := 8) (by simp only [List.getElem?_toArray, List.getElem?_cons_succ, List.getElem?_cons_zero]; rfl) (by kernel_rfl) (by kernel_rfl) (by kernel_rfl) (by intro _ _ _ h; exact h) (Or.inl ⟨by first | rfl | go_simp, fun w hw => by (obtain ⟨n0, rfl⟩ := hw; go_simp; try rfl)⟩) Hb.out ?_
                refine wpAnyH_take (i := 9) (by simp only [List.getElem?_toArray, List.getElem?_cons_succ, List.getElem?_cons_zero]; rfl) (by kernel_rfl) (by kernel_rfl) (by kernel_rfl) (by intro _ _ _ h; exact h) (Or.inl ⟨by first | rfl | go_simp, fun w hw => by (obtain ⟨n0, rfl⟩ := hw; go_simp; try rfl)⟩) Hb.out ?_
                try go_frame
                refine wpAnyH_take (i := 10) (by simp only [List.getElem?_toArray, List.getElem?_cons_succ, List.getElem?_cons_zero]; rfl) (by kernel_rfl) (by kernel_rfl) (by kernel_rfl) (by intro _ _ _ h; exact h) (Or.inl ⟨by first | rfl | go_simp, fun w hw => by (obtain ⟨n0, rfl⟩ := hw; go_simp; try rfl)⟩) Hb.out ?_
                refine wpAnyH_take (i := 11) (by simp only [List.getElem?_toArray, List.getElem?_cons_succ, List.getElem?_cons_zero]; rfl) (by kernel_rfl) (by kernel_rfl) (by kernel_rfl) (by intro _ _ _ h; exact h) (Or.inl ⟨by first | rfl | go_simp, fun w hw => by (obtain ⟨n0, rfl⟩ := hw; go_simp; try rfl)⟩) Hb.out ?_
                try go_frame
                refine wpAnyH_take (i := 12) (by simp only [List.getElem?_toArray, List.getElem?_cons_succ, List.getElem?_cons_zero]; rfl) (by kernel_rfl) (by kernel_rfl) (by kernel_rfl) (by intro _ _ _ h; exact h) (Or.inl ⟨by first | rfl | go_simp, fun w hw => by (obtain ⟨n0, rfl⟩ := hw; go_simp; try rfl)⟩) Hb.out ?_
                refine wpAnyH_take (i := 13) (by simp only [List.getElem?_toArray, List.getElem?_cons_succ, List.getElem?_cons_zero]; rfl) (by kernel_rfl) (by kernel_rfl) (by kernel_rfl) (by intro _ _ _ h; exact h) (Or.inl ⟨by first | rfl | go_simp, fun w hw => by (obtain ⟨n0, rfl⟩ := hw; go_simp; try rfl)⟩) Hb.out ?_
                try go_frame
                refine wpAnyH_take (i := 14) (by simp only [List.getElem?_toArray, List.getElem?_cons_succ, List.getElem?_cons_zero]; rfl) (by kernel_rfl) (by kernel_rfl) (by kernel_rfl) (by intro _ _ _ h; exact h) (Or.inl ⟨by first | rfl | go_simp, fun w hw => by (obtain ⟨n0, rfl⟩ := hw; go_simp; try rfl)⟩) Hb.out ?_
                refine wpAnyH_take (i := 15) (by simp only [List.getElem?_toArray, List.getElem?_cons_succ, List.getElem?_cons_zero]; rfl) (by kernel_rfl) (by kernel_rfl) (by kernel_rfl) (by intro _ _ _ h; exact h) (Or.inl ⟨by first | rfl | go_simp, fun w hw => by (obtain ⟨n0, rfl⟩ := hw; go_simp; try rfl)⟩) Hb.out ?_
                try go_frame
                refine wpAnyH_take (i := 16) (by simp only [List.getElem?_toArray, List.getElem?_cons_succ, List.getElem?_cons_zero]; rfl) (by kernel_rfl) (by kernel_rfl) (by kernel_rfl) (by intro _ _ _ h; exact h) (Or.inl ⟨by first | rfl | go_simp, fun w hw => by (obtain ⟨n0, rfl⟩ := hw; go_simp; try rfl)⟩) Hb.out ?_
                refine wpAnyH_take (i := 17) (by simp only [List.getElem?_toArray, List.getElem?_cons_succ, List.getElem?_cons_zero]; rfl) (by kernel_rfl) (by kernel_rfl) (by kernel_rfl) (by intro _ _ _ h; exact h) (Or.inl ⟨by first | rfl | go_simp, fun w hw => by (obtain ⟨n0, rfl⟩ := hw; go_simp; try rfl)⟩) Hb.out ?_
                try go_frame
                refine wpAnyH_take (i := 18) (by simp only [List.getElem?_toArray, List.getElem?_cons_succ, List.getElem?_cons_zero]; rfl) (by kernel_rfl) (by kernel_rfl) (by kernel_rfl) (by intro _ _ _ h; exact h) (Or.inl ⟨by first | rfl | go_simp, fun w hw => by (obtain ⟨n0, rfl⟩ := hw; go_simp; try rfl)⟩) Hb.out ?_
                refine wpAnyH_take (i := 19) (by simp only [List.getElem?_toArray, List.getElem?_cons_succ, List.getElem?_cons_zero]; rfl) (by kernel_rfl) (by kernel_rfl) (by kernel_rfl) (by intro _ _ _ h; exact h) (Or.inl ⟨by first | rfl | go_simp, fun w hw => by (obtain ⟨n0, rfl⟩ := hw; go_simp; try rfl)⟩) Hb.out ?_
                try go_frame
                refine wpAnyH_take (i := 20) (by simp only [List.getElem?_toArray, List.getElem?_cons_succ, List.getElem?_cons_zero]; rfl) (by kernel_rfl) (by kernel_rfl) (by kernel_rfl) (by intro _ _ _ h; exact h) (Or.inl ⟨by first | rfl | go_simp, fun w hw => by (obtain ⟨n0, rfl⟩ := hw; go_simp; try rfl)⟩) Hb.out ?_
                refine wpAnyH_take (i := 21) (by simp only [List.getElem?_toArray, List.getElem?_cons_succ, List.getElem?_cons_zero]; rfl) (by kernel_rfl) (by kernel_rfl) (by kernel_rfl) (by intro _ _ _ h; exact h) (Or.inl ⟨by first | rfl | go_simp, fun w hw => by (obtain ⟨n0, rfl⟩ := hw; go_simp; try rfl)⟩) Hb.out ?_
                try go_frame
                refine wpAnyH_take (i := 22) (by simp only [List.getElem?_toArray, List.getElem?_cons_succ, List.getElem?_cons_zero]; rfl) (by kernel_rfl) (by kernel_rfl) (by kernel_rfl) (by intro _ _ _ h; exact h) (Or.inl ⟨by first | rfl | go_simp, fun w hw => by (obtain ⟨n0, rfl⟩ := hw; go_simp; try rfl)⟩) Hb.out ?_
                refine wpAnyH_take (i := 23) (by simp only [List.getElem?_toArray, List.getElem?_cons_succ, List.getElem?_cons_zero]; rfl) (by kernel_rfl) (by kernel_rfl) (by kernel_rfl) (by intro _ _ _ h; exact h) (Or.inl ⟨by first | rfl | go_simp, fun w hw => by (obtain ⟨n0, rfl⟩ := hw; go_simp; try rfl)⟩) Hb.out ?_
                try go_frame
                refine wpAnyH_take (i := 24) (by simp only [List.getElem?_toArray, List.getElem?_cons_succ, List.getElem?_cons_zero]; rfl) (by kernel_rfl) (by kernel_rfl) (by kernel_rfl) (by intro _ _ _ h; exact h) (Or.inl ⟨by first | rfl | go_simp, fun w hw => by (obtain ⟨n0, rfl⟩ := hw; go_simp; try rfl)⟩) Hb.out ?_
                refine wpAnyH_take (i := 25) (by simp only [List.getElem?_toArray, List.getElem?_cons_succ, List.getElem?_cons_zero]; rfl) (by kernel_rfl) (by kernel_rfl) (by kernel_rfl) (by intro _ _ _ h; exact h) (Or.inl ⟨by first | rfl | go_simp, fun w hw => by (obtain ⟨n0, rfl⟩ := hw; go_simp; try rfl)⟩) Hb.out ?_
                try go_frame
                refine wpAnyH_take (i := 26) (by simp only [List.getElem?_toArray, List.getElem?_cons_succ, List.getElem?_cons_zero]; rfl) (by kernel_rfl) (by kernel_rfl) (by kernel_rfl) (by intro _ _ _ h; exact h) (Or.inl ⟨by first | rfl | go_simp, fun w hw => by (obtain ⟨n0, rfl⟩ := hw; go_simp; try rfl)⟩) Hb.out ?_
                refine wpAnyH_take (i := 27) (by simp only [List.getElem?_toArray, List.getElem?_cons_succ, List.getElem?_cons_zero]; rfl) (by kernel_rfl) (by kernel_rfl) (by kernel_rfl) (by intro _ _ _ h; exact h) (Or.inl ⟨by first | rfl | go_simp, fun w hw => by (obtain ⟨n0, rfl⟩ := hw; go_simp; try rfl)⟩) Hb.out ?_
                try go_frame
                refine wpAnyH_take (i := 28) (by simp only [List.getElem?_toArray, List.getElem?_cons_succ, List.getElem?_cons_zero]; rfl) (by kernel_rfl) (by kernel_rfl) (by kernel_rfl) (by intro _ _ _ h; exact h) (Or.inl ⟨by first | rfl | go_simp, fun w hw => by (obtain ⟨n0, rfl⟩ := hw; go_simp; try rfl)⟩) Hb.out ?_
                refine wpAnyH_take (i := 29) (by simp only [List.getElem?_toArray, List.getElem?_cons_succ, List.getElem?_cons_zero]; rfl) (by kernel_rfl) (by kernel_rfl) (by kernel_rfl) (by intro _ _ _ h; exact h) (Or.inl ⟨by first | rfl | go_simp, fun w hw => by (obtain ⟨n0, rfl⟩ := hw; go_simp; try rfl)⟩) Hb.out ?_
                try go_frame
                refine wpAnyH_take (i := 30) (by simp only [List.getElem?_toArray, List.getElem?_cons_succ, List.getElem?_cons_zero]; rfl) (by kernel_rfl) (by kernel_rfl) (by kernel_rfl) (by intro _ _ _ h; exact h) (Or.inl ⟨by first | rfl | go_simp, fun w hw => by (obtain ⟨n0, rfl⟩ := hw; go_simp; try rfl)⟩) Hb.out ?_
                refine wpAnyH_take (i := 31) (by simp only [List.getElem?_toArray, List.getElem?_cons_succ, List.getElem?_cons_zero]; rfl) (by kernel_rfl) (by kernel_rfl) (by kernel_rfl) (by intro _ _ _ h; exact h) (Or.inl ⟨by first | rfl | go_simp, fun w hw => by (obtain ⟨n0, rfl⟩ := hw; go_simp; try rfl)⟩) Hb.out ?_
                try go_frame
                refine wpAnyH_take (i := 32) (by simp only [List.getElem?_toArray, List.getElem?_cons_succ, List.getElem?_cons_zero]; rfl) (by kernel_rfl) (by kernel_rfl) (by kernel_rfl) (by intro _ _ _ h; exact h) (Or.inl ⟨by first | rfl | go_simp, fun w hw => by (obtain ⟨n0, rfl⟩ := hw; go_simp; try rfl)⟩) Hb.out ?_
                refine wpAnyH_take (i := 33) (by simp only [List.getElem?_toArray, List.getElem?_cons_succ, List.getElem?_cons_zero]; rfl) (by kernel_rfl) (by kernel_rfl) (by kernel_rfl) (by intro _ _ _ h; exact h) (Or.inl ⟨by first | rfl | go_simp, fun w hw => by (obtain ⟨n0, rfl⟩ := hw; go_simp; try rfl)⟩) Hb.out ?_
                try go_frame
                refine wpAnyH_take (i := 34) (by simp only [List.getElem?_toArray, List.getElem?_cons_succ, List.getElem?_cons_zero]; rfl) (by kernel_rfl) (by kernel_rfl) (by kernel_rfl) (by intro _ _ _ h; exact h) (Or.inl ⟨by first | rfl | go_simp, fun w hw => by (obtain ⟨n0, rfl⟩ := hw; go_simp; try rfl)⟩) Hb.out ?_
                refine wpAnyH_ready (rs := [35]) (by kernel_rfl) (by simp) ?_
                refine AllReadyH.cons rfl (fun K hK => ?_) AllReadyH.nil
                go_simp
                refine (sameInts14_any _ _ xm ym _ (by obtain ⟨n0, e⟩ := Hb.out; rw [e]; exact SliceIn.later HX.out.1 (below_draws _ _)) (by obtain ⟨n0, e⟩ := Hb.out; rw [e]; exact SliceIn.later HX.out.2.2.1 (below_draws _ _)) HL.out.1 HL.out.2.2.1).mono ?_
                rintro e w1 ⟨rfl, n1, hw1⟩
                dsimp only
                have Hb : Hid (∃ n0, w1 = w.drewN n0) := by obtain ⟨n0, e⟩ := Hb.out; exact ⟨n0 + n1, by rw [hw1, e, World.drewN_drewN]⟩
                refine hK.out _ _ Hb.out (fun _ => ?_)
                clear hK K hw1
                try go_frame
                try go_frame
                refine wpAnyH_take (i := 36) (by simp only [List.getElem?_toArray, List.getElem?_cons_succ, List.getElem?_cons_zero]; rfl) (by kernel_rfl) (by kernel_rfl) (by kernel_rfl) (by intro _ _ _ h; exact h) (Or.inl ⟨by first | rfl | go_simp, fun w hw => by (obtain ⟨n0, rfl⟩ := hw; go_simp; try rfl)⟩) Hb.out ?_
                refine wpAnyH_take (i := 37) (by simp only [List.getElem?_toArray, List.getElem?_cons_succ, List.getElem?_cons_zero]; rfl) (by kernel_rfl) (by kernel_rfl) (by kernel_rfl) (by intro _ _ _ h; exact h) (Or.inl ⟨by first | rfl | go_simp, fun w hw => by (obtain ⟨n0, rfl⟩ := hw; go_simp; try rfl)⟩) Hb.out ?_
                try go_frame
                refine wpAnyH_take (i := 38) (by simp only [List.getElem?_toArray, List.getElem?_cons_succ, List.getElem?_cons_zero]; rfl) (by kernel_rfl) (by kernel_rfl) (by kernel_rfl) (by intro _ _ _ h; exact h) (Or.inl ⟨by first | rfl | go_simp, fun w hw => by (obtain ⟨n0, rfl⟩ := hw; go_simp; try rfl)⟩) Hb.out ?_
                refine wpAnyH_take (i := 39) (by simp only [List.getElem?_toArray, List.getElem?_cons_succ, List.getElem?_cons_zero]; rfl) (by kernel_rfl) (by kernel_rfl) (by kernel_rfl) (by intro _ _ _ h; exact h) (Or.inl ⟨by first | rfl | go_simp, fun w hw => by (obtain ⟨n0, rfl⟩ := hw; go_simp; try rfl)⟩) Hb.out ?_
                try go_frame
                refine wpAnyH_take (i := 40) (by simp only [List.getElem?_toArray, List.getElem?_cons_succ, List.getElem?_cons_zero]; rfl) (by kernel_rfl) (by kernel_rfl) (by kernel_rfl) (by intro _ _ _ h; exact h) (Or.inl ⟨by first | rfl | go_simp, fun w hw => by (obtain ⟨n0, rfl⟩ := hw; go_simp; try rfl)⟩) Hb.out ?_
                refine wpAnyH_take (i := 41) (by simp only [List.getElem?_toArray, List.getElem?_cons_succ, List.getElem?_cons_zero]; rfl) (by kernel_rfl) (by kernel_rfl) (by kernel_rfl) (by intro _ _ _ h; exact h) (Or.inl ⟨by first | rfl | go_simp, fun w hw => by (obtain ⟨n0, rfl⟩ := hw; go_simp; try rfl)⟩) Hb.out ?_
                try go_frame
                refine wpAnyH_take (i := 42) (by simp only [List.getElem?_toArray, List.getElem?_cons_succ, List.getElem?_cons_zero]; rfl) (by kernel_rfl) (by kernel_rfl) (by kernel_rfl) (by intro _ _ _ h; exact h) (Or.inl ⟨by first | rfl | go_simp, fun w hw => by (obtain ⟨n0, rfl⟩ := hw; go_simp; try rfl)⟩) Hb.out ?_
                refine wpAnyH_take (i := 43) (by simp only [List.getElem?_toArray, List.getElem?_cons_succ, List.getElem?_cons_zero]; rfl) (by kernel_rfl) (by kernel_rfl) (by kernel_rfl) (by intro _ _ _ h; exact h) (Or.inl ⟨by first | rfl | go_simp, fun w hw => by (obtain ⟨n0, rfl⟩ := hw; go_simp; try rfl)⟩) Hb.out ?_
                try go_frame
                refine wpAnyH_take (i := 44) (by simp only [List.getElem?_toArray, List.getElem?_cons_succ, List.getElem?_cons_zero]; rfl) (by kernel_rfl) (by kernel_rfl) (by kernel_rfl) (by intro _ _ _ h; exact h) (Or.inl ⟨by first | rfl | go_simp, fun w hw => by (obtain ⟨n0, rfl⟩ := hw; go_simp; try rfl)⟩) Hb.out ?_
                refine wpAnyH_take (i := 45) (by simp only [List.getElem?_toArray, List.getElem?_cons_succ, List.getElem?_cons_zero]; rfl) (by kernel_rfl) (by kernel_rfl) (by kernel_rfl) (by intro _ _ _ h; exact h) (Or.inl ⟨by first | rfl | go_simp, fun w hw => by (obtain ⟨n0, rfl⟩ := hw; go_simp; try rfl)⟩) Hb.out ?_
                try go_frame
                refine wpAnyH_take (i := 46) (by simp only [List.getElem?_toArray, List.getElem?_cons_succ, List.getElem?_cons_zero]; rfl) (by kernel_rfl) (by kernel_rfl) (by kernel_rfl) (by intro _ _ _ h; exact h) (Or.inl ⟨by first | rfl | go_simp, fun w hw => by (obtain ⟨n0, rfl⟩ := hw; go_simp; try rfl)⟩) Hb.out ?_
                refine wpAnyH_take (i := 47) (by simp only [List.getElem?_toArray, List.getElem?_cons_succ, List.getElem?_cons_zero]; rfl) (by kernel_rfl) (by kernel_rfl) (by kernel_rfl) (by intro _ _ _ h; exact h) (Or.inl ⟨by first | rfl | go_simp, fun w hw => by (obtain ⟨n0, rfl⟩ := hw; go_simp; try rfl)⟩) Hb.out ?_
                try go_frame
                refine wpAnyH_take (i := 48) (by simp only [List.getElem?_toArray, List.getElem?_cons_succ, List.getElem?_cons_zero]; rfl) (by kernel_rfl) (by kernel_rfl) (by kernel_rfl) (by intro _ _ _ h; exact h) (Or.inl ⟨by first | rfl | go_simp, fun w hw => by (obtain ⟨n0, rfl⟩ := hw; go_simp; try rfl)⟩) Hb.out ?_
                refine wpAnyH_ready (rs := [49]) (by kernel_rfl) (by simp) ?_
                refine AllReadyH.cons rfl (fun K hK => ?_) AllReadyH.nil
                go_simp
                refine (sameInts14_any _ _ xb yb _ (by obtain ⟨n0, e⟩ := Hb.out; rw [e]; exact SliceIn.later HX.out.2.1 (below_draws _ _)) (by obtain ⟨n0, e⟩ := Hb.out; rw [e]; exact SliceIn.later HX.out.2.2.2 (below_draws _ _)) HL.out.2.1 HL.out.2.2.2).mono ?_
                rintro e w1 ⟨rfl, n1, hw1⟩
                dsimp only
                have Hb : Hid (∃ n0, w1 = w.drewN n0) := by obtain ⟨n0, e⟩ := Hb.out; exact ⟨n0 + n1, by rw [hw1, e, World.drewN_drewN]⟩
                refine hK.out _ _ Hb.out (fun _ => ?_)
                clear hK K hw1
                try go_frame
                try go_frame
                refine wpAnyH_take (i := 50) (by simp only [List.getElem?_toArray, List.getElem?_cons_succ, List.getElem?_cons_zero]; rfl) (by kernel_rfl) (by kernel_rfl) (by kernel_rfl) (by intro _ _ _ h; exact h) (Or.inl ⟨by first | rfl | go_simp, fun w hw => by (obtain ⟨n0, rfl⟩ := hw; go_simp; try rfl)⟩) Hb.out ?_
                refine wpAnyH_take (i := 51) (by simp only [List.getElem?_toArray, List.getElem?_cons_succ, List.getElem?_cons_zero]; rfl) (by kernel_rfl) (by kernel_rfl) (by kernel_rfl) (by intro _ _ _ h; exact h) (Or.inl ⟨by first | rfl | go_simp, fun w hw => by (obtain ⟨n0, rfl⟩ := hw; go_simp; try rfl)⟩) Hb.out ?_
                try go_frame
                refine wpAnyH_done (by kernel_rfl) ?_ _
                (obtain ⟨n0, rfl⟩ := Hb.out; go_wp2_with fail; go_ret; exact ⟨by rw [decide_eq_false Hres.out]; rfl, _, rfl⟩)
            · have q3 : decide (xm = ym) = false := by simp [h2]
              have Hres := Lib.hid (Hdiff.out (fun e => h2 (congrArg (fun z => z.2.2.1) e)))
              clear h0 h1 h2
              refine wpAnyH_take (i := 0) (by simp only [List.getElem?_toArray, List.getElem?_cons_zero]; rfl) (by kernel_rfl) (by kernel_rfl) (by kernel_rfl) (by intro _ _ _ h; exact h) (Or.inl ⟨by first | rfl | go_simp, fun w hw => by (obtain ⟨n0, rfl⟩ := hw; go_simp; try rfl)⟩) Hb.out ?_
              refine wpAnyH_take (i := 1) (by simp only [List.getElem?_toArray, List.getElem?_cons_succ, List.getElem?_cons_zero]; rfl) (by kernel_rfl) (by kernel_rfl) (by kernel_rfl) (by intro _ _ _ h; exact h) (Or.inl ⟨by first | rfl | go_simp, fun w hw => by (obtain ⟨n0, rfl⟩ := hw; go_simp; try rfl)⟩) Hb.out ?_
              try go_frame
              refine wpAnyH_take (i := 2) (by simp only [List.getElem?_toArray, List.getElem?_cons_succ, List.getElem?_cons_zero]; rfl) (by kernel_rfl) (by kernel_rfl) (by kernel_rfl) (by intro _ _ _ h; exact h) (Or.inl ⟨by first | rfl | go_simp, fun w hw => by (obtain ⟨n0, rfl⟩ := hw; go_simp; try rfl)⟩) Hb.out ?_
              refine wpAnyH_take (i := 3) (by simp only [List.getElem?_toArray, List.getElem?_cons_succ, List.getElem?_cons_zero]; rfl) (by kernel_rfl) (by kernel_rfl) (by kernel_rfl) (by intro _ _ _ h; exact h) (Or.inl ⟨by first | rfl | go_simp, fun w hw => by (obtain ⟨n0, rfl⟩ := hw; go_simp; try rfl)⟩) Hb.out ?_
              try go_frame
              refine wpAnyH_take (i := 4) (by simp only [List.getElem?_toArray, List.getElem?_cons_succ, List.getElem?_cons_zero]; rfl) (by kernel_rfl) (by kernel_rfl) (by kernel_rfl) (by intro _ _ _ h; exact h) (Or.inl ⟨by first | rfl | go_simp, fun w hw => by (obtain ⟨n0, rfl⟩ := hw; go_simp; try rfl)⟩) Hb.out ?_
              refine wpAnyH_take (i := 5) (by simp only [List.getElem?_toArray, List.getElem?_cons_succ, List.getElem?_cons_zero]; rfl) (by kernel_rfl) (by kernel_rfl) (by kernel_rfl) (by intro _ _ _ h; exact h) (Or.inl ⟨by first | rfl | go_simp, fun w hw => by (obtain ⟨n0, rfl⟩ := hw; go_simp; try rfl)⟩) Hb.out ?_
              try go_frame
              refine wpAnyH_take (i := 6) (by simp only [List.getElem?_toArray, List.getElem?_cons_succ, List.getElem?_cons_zero]; rfl) (by kernel_rfl) (by kernel_rfl) (by kernel_rfl) (by intro _ _ _ h; exact h) (Or.inl ⟨by first | rfl | go_simp, fun w hw => by (obtain ⟨n0, rfl⟩ := hw; go_simp; try rfl)⟩) Hb.out ?_
              refine wpAnyH_take (i := 7) (by simp only [List.getElem?_toArray, List.getElem?_cons_succ, List.getElem?_cons_zero]; rfl) (by kernel_rfl) (by kernel_rfl) (by kernel_rfl) (by intro _ _ _ h; exact h) (Or.inl ⟨by first | rfl | go_simp, fun w hw => by (obtain ⟨n0, rfl⟩ := hw; go_simp; try rfl)⟩) Hb.out ?_
              try go_frame
              refine wpAnyH_take (i := 8) (by simp only [List.getElem?_toArray, List.getElem?_cons_succ, List.getElem?_cons_zero]; rfl) (by kernel_rfl) (by kernel_rfl) (by kernel_rfl) (by intro _ _ _ h; exact h) (Or.inl ⟨by first | rfl | go_simp, fun w hw => by (obtain ⟨n0, rfl⟩ := hw; go_simp; try rfl)⟩) Hb.out ?_
              refine wpAnyH_take (i := 9) (by simp only [List.getElem?_toArray, List.getElem?_cons_succ, List.getElem?_cons_zero]; rfl) (by kernel_rfl) (by kernel_rfl) (by kernel_rfl) (by intro _ _ _ h; exact h) (Or.inl ⟨by first | rfl | go_simp, fun w hw => by (obtain ⟨n0, rfl⟩ := hw; go_simp; try rfl)⟩) Hb.out ?_
              try go_frame
              refine wpAnyH_take (i := 10) (by simp only [List.getElem?_toArray, List.getElem?_cons_succ, List.getElem?_cons_zero]; rfl) (by kernel_rfl) (by kernel_rfl) (by kernel_rfl) (by intro _ _ _ h; exact h) (Or.inl ⟨by first | rfl | go_simp, fun w hw => by (obtain ⟨n0, rfl⟩ := hw; go_simp; try rfl)⟩) Hb.out ?_
              refine wpAnyH_take (i := 11) (by simp only [List.getElem?_toArray, List.getElem?_cons_succ, List.getElem?_cons_zero]; rfl) (by kernel_rfl) (by kernel_rfl) (by kernel_rfl) (by intro _ _ _ h; exact h) (Or.inl ⟨by first | rfl | go_simp, fun w hw => by (obtain ⟨n0, rfl⟩ := hw; go_simp; try rfl)⟩) Hb.out ?_
              try go_frame
              refine wpAnyH_take (i := 12) (by simp only [List.getElem?_toArray, List.getElem?_cons_succ, List.getElem?_cons_zero]; rfl) (by kernel_rfl) (by kernel_rfl) (by kernel_rfl) (by intro _ _ _ h; exact h) (Or.inl ⟨by first | rfl | go_simp, fun w hw => by (obtain ⟨n0, rfl⟩ := hw; go_simp; try rfl)⟩) Hb.out ?_
              refine wpAnyH_take (i := 13) (by simp only [List.getElem?_toArray, List.getElem?_cons_succ, List.getElem?_cons_zero]; rfl) (by kernel_rfl) (by kernel_rfl) (by kernel_rfl) (by intro _ _ _ h; exact h) (Or.inl ⟨by first | rfl | go_simp, fun w hw => by (obtain ⟨n0, rfl⟩ := hw; go_simp; try rfl)⟩) Hb.out ?_
              try go_frame
              refine wpAnyH_take (i := 14) (by simp only [List.getElem?_toArray, List.getElem?_cons_succ, List.getElem?_cons_zero]; rfl) (by kernel_rfl) (by kernel_rfl) (by kernel_rfl) (by intro _ _ _ h; exact h) (Or.inl ⟨by first | rfl | go_simp, fun w hw => by (obtain ⟨n0, rfl⟩ := hw; go_simp; try rfl)⟩) Hb.out ?_
              refine wpAnyH_take (i := 15) (by simp only [List.getElem?_toArray, List.getElem?_cons_succ, List.getElem?_cons_zero]; rfl) (by kernel_rfl) (by kernel_rfl) (by kernel_rfl) (by intro _ _ _ h; exact h) (Or.inl ⟨by first | rfl | go_simp, fun w hw => by (obtain ⟨n0, rfl⟩ := hw; go_simp; try rfl)⟩) Hb.out ?_
              try go_frame
              refine wpAnyH_take (i := 16) (by simp only [List.getElem?_toArray, List.getElem?_cons_succ, List.getElem?_cons_zero]; rfl) (by kernel_rfl) (by kernel_rfl) (by kernel_rfl) (by intro _ _ _ h; exact h) (Or.inl ⟨by first | rfl | go_simp, fun w hw => by (obtain ⟨n0, rfl⟩ := hw; go_simp; try rfl)⟩) Hb.out ?_
              refine wpAnyH_take (i := 17) (by simp only [List.getElem?_toArray, List.getElem?_cons_succ, List.getElem?_cons_zero]; rfl) (by kernel_rfl) (by kernel_rfl) (by kernel_rfl) (by intro _ _ _ h; exact h) (Or.inl ⟨by first | rfl | go_simp, fun w hw => by (obtain ⟨n0, rfl⟩ := hw; go_simp; try rfl)⟩) Hb.out ?_
              try go_frame
              refine wpAnyH_take (i := 18) (by simp only [List.getElem?_toArray, List.getElem?_cons_succ, List.getElem?_cons_zero]; rfl) (by kernel_rfl) (by kernel_rfl) (by kernel_rfl) (by intro _ _ _ h; exact h) (Or.inl ⟨by first | rfl | go_simp, fun w hw => by (obtain ⟨n0, rfl⟩ := hw; go_simp; try rfl)⟩) Hb.out ?_
              refine wpAnyH_take (i := 19) (by simp only [List.getElem?_toArray, List.getElem?_cons_succ, List.getElem?_cons_zero]; rfl) (by kernel_rfl) (by kernel_rfl) (by kernel_rfl) (by intro _ _ _ h; exact h) (Or.inl ⟨by first | rfl | go_simp, fun w hw => by (obtain ⟨n0, rfl⟩ := hw; go_simp; try rfl)⟩) Hb.out ?_
              try go_frame
              refine wpAnyH_take (i := 20) (by simp only [List.getElem?_toArray, List.getElem?_cons_succ, List.getElem?_cons_zero]; rfl) (by kernel_rfl) (by kernel_rfl) (by kernel_rfl) (by intro _ _ _ h; exact h) (Or.inl ⟨by first | rfl | go_simp, fun w hw => by (obtain ⟨n0, rfl⟩ := hw; go_simp; try rfl)⟩) Hb.out ?_
              refine wpAnyH_take (i := 21) (by simp only [List.getElem?_toArray, List.getElem?_cons_succ, List.getElem?_cons_zero]; rfl) (by kernel_rfl) (by kernel_rfl) (by kernel_rfl) (by intro _ _ _ h; exact h) (Or.inl ⟨by first | rfl | go_simp, fun w hw => by (obtain ⟨n0, rfl⟩ := hw; go_simp; try rfl)⟩) Hb.out ?_
              try go_frame
              refine wpAnyH_take (i := 22) (by simp only [List.getElem?_toArray, List.getElem?_cons_succ, List.getElem?_cons_zero]; rfl) (by kernel_rfl) (by kernel_rfl) (by kernel_rfl) (by intro _ _ _ h; exact h) (Or.inl ⟨by first | rfl | go_simp, fun w hw => by (obtain ⟨n0, rfl⟩ := hw; go_simp; try rfl)⟩) Hb.out ?_
              refine wpAnyH_take (i := 23) (by simp only [List.getElem?_toArray, List.getElem?_cons_succ, List.getElem?_cons_zero]; rfl) (by kernel_rfl) (by kernel_rfl) (by kernel_rfl) (by intro _ _ _ h; exact h) (Or.inl ⟨by first | rfl | go_simp, fun w hw => by (obtain ⟨n0, rfl⟩ := hw; go_simp; try rfl)⟩) Hb.out ?_
              try go_frame
              refine wpAnyH_take (i := 24) (by simp only [List.getElem?_toArray, List.getElem?_cons_succ, List.getElem?_cons_zero]; rfl) (by kernel_rfl) (by kernel_rfl) (by kernel_rfl) (by intro _ _ _ h; exact h) (Or.inl ⟨by first | rfl | go_simp, fun w hw => by (obtain ⟨n0, rfl⟩ := hw; go_simp; try rfl)⟩) Hb.out ?_
              refine wpAnyH_take (i := 25) (by simp only [List.getElem?_toArray, List.getElem?_cons_succ, List.getElem?_cons_zero]; rfl) (by kernel_rfl) (by kernel_rfl) (by kernel_rfl) (by intro _ _ _ h; exact h) (Or.inl ⟨by first | rfl | go_simp, fun w hw => by (obtain ⟨n0, rfl⟩ := hw; go_simp; try rfl)⟩) Hb.out ?_
              try go_frame
              refine wpAnyH_take (i := 26) (by simp only [List.getElem?_toArray, List.getElem?_cons_succ, List.getElem?_cons_zero]; rfl) (by kernel_rfl) (by kernel_rfl) (by kernel_rfl) (by intro _ _ _ h; exact h) (Or.inl ⟨by first | rfl | go_simp, fun w hw => by (obtain ⟨n0, rfl⟩ := hw; go_simp; try rfl)⟩) Hb.out ?_
              refine wpAnyH_take (i := 27) (by simp only [List.getElem?_toArray, List.getElem?_cons_succ, List.getElem?_cons_zero]; rfl) (by kernel_rfl) (by kernel_rfl) (by kernel_rfl) (by intro _ _ _ h; exact h) (Or.inl ⟨by first | rfl | go_simp, fun w hw => by (obtain ⟨n0, rfl⟩ := hw; go_simp; try rfl)⟩) Hb.out ?_
              try go_frame
              refine wpAnyH_take (i := 28) (by simp only [List.getElem?_toArray, List.getElem?_cons_succ, List.getElem?_cons_zero]; rfl) (by kernel_rfl) (by kernel_rfl) (by kernel_rfl) (by intro _ _ _ h; exact h) (Or.inl ⟨by first | rfl | go_simp, fun w hw => by (obtain ⟨n0, rfl⟩ := hw; go_simp; try rfl)⟩) Hb.out ?_
              refine wpAnyH_take (i := 29) (by simp only [List.getElem?_toArray, List.getElem?_cons_succ, List.getElem?_cons_zero]; rfl) (by kernel_rfl) (by kernel_rfl) (by kernel_rfl) (by intro _ _ _ h; exact h) (Or.inl ⟨by first | rfl | go_simp, fun w hw => by (obtain ⟨n0, rfl⟩ := hw; go_simp; try rfl)⟩) Hb.out ?_
              try go_frame
              refine wpAnyH_take (i := 30) (by simp only [List.getElem?_toArray, List.getElem?_cons_succ, List.getElem?_cons_zero]; rfl) (by kernel_rfl) (by kernel_rfl) (by kernel_rfl) (by intro _ _ _ h; exact h) (Or.inl ⟨by first | rfl | go_simp, fun w hw => by (obtain ⟨n0, rfl⟩ := hw; go_simp; try rfl)⟩) Hb.out ?_
              refine wpAnyH_take (i := 31) (by simp only [List.getElem?_toArray, List.getElem?_cons_succ, List.getElem?_cons_zero]; rfl) (by kernel_rfl) (by kernel_rfl) (by kernel_rfl) (by intro _ _ _ h; exact h) (Or.inl ⟨by first | rfl | go_simp, fun w hw => by (obtain ⟨n0, rfl⟩ := hw; go_simp; try rfl)⟩) Hb.out ?_
              try go_frame
              refine wpAnyH_take (i := 32) (by simp only [List.getElem?_toArray, List.getElem?_cons_succ, List.getElem?_cons_zero]; rfl) (by kernel_rfl) (by kernel_rfl) (by kernel_rfl) (by intro _ _ _ h; exact h) (Or.inl ⟨by first | rfl | go_simp, fun w hw => by (obtain ⟨n0, rfl⟩ := hw; go_simp; try rfl)⟩) Hb.out ?_
              refine wpAnyH_take (i := 33) (by simp only [List.getElem?_toArray, List.getElem?_cons_succ, List.getElem?_cons_zero]; rfl) (by kernel_rfl) (by kernel_rfl) (by kernel_rfl) (by intro _ _ _ h; exact h) (Or.inl ⟨by first | rfl | go_simp, fun w hw => by (obtain ⟨n0, rfl⟩ := hw; go_simp; try rfl)⟩) Hb.out ?_
              try go_frame
              refine wpAnyH_take (i := 34) (by simp only [List.getElem?_toArray, List.getElem?_cons_succ, List.getElem?_cons_zero]; rfl) (by kernel_rfl) (by kernel_rfl) (by kernel_rfl) (by intro _ _ _ h; exact h) (Or.inl ⟨by first | rfl | go_simp, fun w hw => by (obtain ⟨n0, rfl⟩ := hw; go_simp; try rfl)⟩) Hb.out ?_
              refine wpAnyH_ready (rs := [35]) (by kernel_rfl) (by simp) ?_
              refine AllReadyH.cons rfl (fun K hK => ?_) AllReadyH.nil
              go_simp
              refine (sameInts14_any _ _ xm ym _ (by obtain ⟨n0, e⟩ := Hb.out; rw [e]; exact SliceIn.later HX.out.1 (below_draws _ _)) (by obtain ⟨n0, e⟩ := Hb.out; rw [e]; exact SliceIn.later HX.out.2.2.1 (below_draws _ _)) HL.out.1 HL.out.2.2.1).mono ?_
              rintro e w1 ⟨rfl, n1, hw1⟩
              dsimp only
              have Hb : Hid (∃ n0, w1 = w.drewN n0) := by obtain ⟨n0, e⟩ := Hb.out; exact ⟨n0 + n1, by rw [hw1, e, World.drewN_drewN]⟩
              refine hK.out _ _ Hb.out (fun _ => ?_)
              clear hK K hw1
              try go_frame
              try go_frame
              refine wpAnyH_take (i := 36) (by simp only [List.getElem?_toArray, List.getElem?_cons_succ, List.getElem?_cons_zero]; rfl) (by kernel_rfl) (by kernel_rfl) (by kernel_rfl) (by intro _ _ _ h; exact h) (Or.inl ⟨by first | rfl | go_simp, fun w hw => by (obtain ⟨n0, rfl⟩ := hw; go_simp; try rfl)⟩) Hb.out ?_
              refine wpAnyH_take (i := 37) (by simp only [List.getElem?_toArray, List.getElem?_cons_succ, List.getElem?_cons_zero]; rfl) (by kernel_rfl) (by kernel_rfl) (by kernel_rfl) (by intro _ _ _ h; exact h) (Or.inl ⟨by first | rfl | go_simp, fun w hw => by (obtain ⟨n0, rfl⟩ := hw; go_simp; try rfl)⟩) Hb.out ?_
              try go_frame
              refine wpAnyH_take (i := 38) (by simp only [List.getElem?_toArray, List.getElem?_cons_succ, List.getElem?_cons_zero]; rfl) (by kernel_rfl) (by kernel_rfl) (by kernel_rfl) (by intro _ _ _ h; exact h) (Or.inl ⟨by first | rfl | go_simp, fun w hw => by (obtain ⟨n0, rfl⟩ := hw; go_simp; try rfl)⟩) Hb.out ?_
              refine wpAnyH_take (i := 39) (by simp only [List.getElem?_toArray, List.getElem?_cons_succ, List.getElem?_cons_zero]; rfl) (by kernel_rfl) (by kernel_rfl) (by kernel_rfl) (by intro _ _ _ h; exact h) (Or.inr ⟨by go_simp, rfl⟩) Hb.out ?_
              try go_frame
              refine wpAnyH_take (i := 40) (by simp only [List.getElem?_toArray, List.getElem?_cons_succ, List.getElem?_cons_zero]; rfl) (by kernel_rfl) (by kernel_rfl) (by kernel_rfl) (by intro _ _ _ h; exact h) (Or.inr ⟨by go_simp, rfl⟩) Hb.out ?_
              refine wpAnyH_take (i := 41) (by simp only [List.getElem?_toArray, List.getElem?_cons_succ, List.getElem?_cons_zero]; rfl) (by kernel_rfl) (by kernel_rfl) (by kernel_rfl) (by intro _ _ _ h; exact h) (Or.inr ⟨by go_simp, rfl⟩) Hb.out ?_
              try go_frame
              refine wpAnyH_take (i := 42) (by simp only [List.getElem?_toArray, List.getElem?_cons_succ, List.getElem?_cons_zero]; rfl) (by kernel_rfl) (by kernel_rfl) (by kernel_rfl) (by intro _ _ _ h; exact h) (Or.inr ⟨by go_simp, rfl⟩) Hb.out ?_
              refine wpAnyH_take (i := 43) (by simp only [List.getElem?_toArray, List.getElem?_cons_succ, List.getElem?_cons_zero]; rfl) (by kernel_rfl) (by kernel_rfl) (by kernel_rfl) (by intro _ _ _ h; exact h) (Or.inr ⟨by go_simp, rfl⟩) Hb.out ?_
              try go_frame
              refine wpAnyH_take (i := 44) (by simp only [List.getElem?_toArray, List.getElem?_cons_succ, List.getElem?_cons_zero]; rfl) (by kernel_rfl) (by kernel_rfl) (by kernel_rfl) (by intro _ _ _ h; exact h) (Or.inr ⟨by go_simp, rfl⟩) Hb.out ?_
              refine wpAnyH_take (i := 45) (by simp only [List.getElem?_toArray, List.getElem?_cons_succ, List.getElem?_cons_zero]; rfl) (by kernel_rfl) (by kernel_rfl) (by kernel_rfl) (by intro _ _ _ h; exact h) (Or.inr ⟨by go_simp, rfl⟩) Hb.out ?_
              try go_frame
              refine wpAnyH_take (i := 46) (by simp only [List.getElem?_toArray, List.getElem?_cons_succ, List.getElem?_cons_zero]; rfl) (by kernel_rfl) (by kernel_rfl) (by kernel_rfl) (by intro _ _ _ h; exact h) (Or.inr ⟨by go_simp, rfl⟩) Hb.out ?_
              refine wpAnyH_take (i := 47) (by simp only [List.getElem?_toArray, List.getElem?_cons_succ, List.getElem?_cons_zero]; rfl) (by kernel_rfl) (by kernel_rfl) (by kernel_rfl) (by intro _ _ _ h; exact h) (Or.inr ⟨by go_simp, rfl⟩) Hb.out ?_
              try go_frame
              refine wpAnyH_take (i := 48) (by simp only [List.getElem?_toArray, List.getElem?_cons_succ, List.getElem?_cons_zero]; rfl) (by kernel_rfl) (by kernel_rfl) (by kernel_rfl) (by intro _ _ _ h; exact h) (Or.inr ⟨by go_simp, rfl⟩) Hb.out ?_
              refine wpAnyH_take (i := 49) (by simp only [List.getElem?_toArray, List.getElem?_cons_succ, List.getElem?_cons_zero]; rfl) (by kernel_rfl) (by kernel_rfl) (by kernel_rfl) (by intro _ _ _ h; exact h) (Or.inr ⟨by go_simp, rfl⟩) Hb.out ?_
              try go_frame
              refine wpAnyH_take (i := 50) (by simp only [List.getElem?_toArray, List.getElem?_cons_succ, List.getElem?_cons_zero]; rfl) (by kernel_rfl) (by kernel_rfl) (by kernel_rfl) (by intro _ _ _ h; exact h) (Or.inr ⟨by go_simp, rfl⟩) Hb.out ?_
              refine wpAnyH_take (i := 51) (by simp only [List.getElem?_toArray, List.getElem?_cons_succ, List.getElem?_cons_zero]; rfl) (by kernel_rfl) (by kernel_rfl) (by kernel_rfl) (by intro _ _ _ h; exact h) (Or.inl ⟨by first | rfl | go_simp, fun w hw => by (obtain ⟨n0, rfl⟩ := hw; go_simp; try rfl)⟩) Hb.out ?_
              try go_frame
              refine wpAnyH_done (by kernel_rfl) ?_ _
              (obtain ⟨n0, rfl⟩ := Hb.out; go_wp2_with fail; go_ret; exact ⟨by rw [decide_eq_false Hres.out]; rfl, _, rfl⟩)
          · have q2 : (xp != yp) = true := by simp [h1]
            have Hres := Lib.hid (Hdiff.out (fun e => h1 (congrArg (fun z => z.2.1) e)))
            clear h0 h1
            refine wpAnyH_take (i := 0) (by simp only [List.getElem?_toArray, List.getElem?_cons_zero]; rfl) (by kernel_rfl) (by kernel_rfl) (by kernel_rfl) (by intro _ _ _ h; exact h) (Or.inl ⟨by first | rfl | go_simp, fun w hw => by (obtain ⟨n0, rfl⟩ := hw; go_simp; try rfl)⟩) Hb.out ?_
            refine wpAnyH_take (i := 1) (by simp only [List.getElem?_toArray, List.getElem?_cons_succ, List.getElem?_cons_zero]; rfl) (by kernel_rfl) (by kernel_rfl) (by kernel_rfl) (by intro _ _ _ h; exact h) (Or.inl ⟨by first | rfl | go_simp, fun w hw => by (obtain ⟨n0, rfl⟩ := hw; go_simp; try rfl)⟩) Hb.out ?_
            try go_frame
            refine wpAnyH_take (i := 2) (by simp only [List.getElem?_toArray, List.getElem?_cons_succ, List.getElem?_cons_zero]; rfl) (by kernel_rfl) (by kernel_rfl) (by kernel_rfl) (by intro _ _ _ h; exact h) (Or.inl ⟨by first | rfl | go_simp, fun w hw => by (obtain ⟨n0, rfl⟩ := hw; go_simp; try rfl)⟩) Hb.out ?_
            refine wpAnyH_take (i := 3) (by simp only [List.getElem?_toArray, List.getElem?_cons_succ, List.getElem?_cons_zero]; rfl) (by kernel_rfl) (by kernel_rfl) (by kernel_rfl) (by intro _ _ _ h; exact h) (Or.inl ⟨by first | rfl | go_simp, fun w hw => by (obtain ⟨n0, rfl⟩ := hw; go_simp; try rfl)⟩) Hb.out ?_
            try go_frame
            refine wpAnyH_take (i := 4) (by simp only [List.getElem?_toArray, List.getElem?_cons_succ, List.getElem?_cons_zero]; rfl) (by kernel_rfl) (by kernel_rfl) (by kernel_rfl) (by intro _ _ _ h; exact h) (Or.inl ⟨by first | rfl | go_simp, fun w hw => by (obtain ⟨n0, rfl⟩ := hw; go_simp; try rfl)⟩) Hb.out ?_
            refine wpAnyH_take (i := 5) (by simp only [List.getElem?_toArray, List.getElem?_cons_succ, List.getElem?_cons_zero]; rfl) (by kernel_rfl) (by kernel_rfl) (by kernel_rfl) (by intro _ _ _ h; exact h) (Or.inl ⟨by first | rfl | go_simp, fun w hw => by (obtain ⟨n0, rfl⟩ := hw; go_simp; try rfl)⟩) Hb.out ?_
            try go_frame
            refine wpAnyH_take (i := 6) (by simp only [List.getElem?_toArray, List.getElem?_cons_succ, List.getElem?_cons_zero]; rfl) (by kernel_rfl) (by kernel_rfl) (by kernel_rfl) (by intro _ _ _ h; exact h) (Or.inl ⟨by first | rfl | go_simp, fun w hw => by (obtain ⟨n0, rfl⟩ := hw; go_simp; try rfl)⟩) Hb.out ?_
            refine wpAnyH_take (i := 7) (by simp only [List.getElem?_toArray, List.getElem?_cons_succ, List.getElem?_cons_zero]; rfl) (by kernel_rfl) (by kernel_rfl) (by kernel_rfl) (by intro _ _ _ h; exact h) (Or.inl ⟨by first | rfl | go_simp, fun w hw => by (obtain ⟨n0, rfl⟩ := hw; go_simp; try rfl)⟩) Hb.out ?_
            try go_frame
            refine wpAnyH_take (i := 8) (by simp only [List.getElem?_toArray, List.getElem?_cons_succ, List.getElem?_cons_zero]; rfl) (by kernel_rfl) (by kernel_rfl) (by kernel_rfl) (by intro _ _ _ h; exact h) (Or.inl ⟨by first | rfl | go_simp, fun w hw => by (obtain ⟨n0, rfl⟩ := hw; go_simp; try rfl)⟩) Hb.out ?_
            refine wpAnyH_take (i := 9) (by simp only [List.getElem?_toArray, List.getElem?_cons_succ, List.getElem?_cons_zero]; rfl) (by kernel_rfl) (by kernel_rfl) (by kernel_rfl) (by intro _ _ _ h; exact h) (Or.inl ⟨by first | rfl | go_simp, fun w hw => by (obtain ⟨n0, rfl⟩ := hw; go_simp; try rfl)⟩) Hb.out ?_
            try go_frame
            refine wpAnyH_take (i := 10) (by simp only [List.getElem?_toArray, List.getElem?_cons_succ, List.getElem?_cons_zero]; rfl) (by kernel_rfl) (by kernel_rfl) (by kernel_rfl) (by intro _ _ _ h; exact h) (Or.inl ⟨by first | rfl | go_simp, fun w hw => by (obtain ⟨n0, rfl⟩ := hw; go_simp; try rfl)⟩) Hb.out ?_
            refine wpAnyH_take (i := 11) (by simp only [List.getElem?_toArray, List.getElem?_cons_succ, List.getElem?_cons_zero]; rfl) (by kernel_rfl) (by kernel_rfl) (by kernel_rfl) (by intro _ _ _ h; exact h) (Or.inl ⟨by first | rfl | go_simp, fun w hw => by (obtain ⟨n0, rfl⟩ := hw; go_simp; try rfl)⟩) Hb.out ?_
            try go_frame
            refine wpAnyH_take (i := 12) (by simp only [List.getElem?_toArray, List.getElem?_cons_succ, List.getElem?_cons_zero]; rfl) (by kernel_rfl) (by kernel_rfl) (by kernel_rfl) (by intro _ _ _ h; exact h) (Or.inl ⟨by first | rfl | go_simp, fun w hw => by (obtain ⟨n0, rfl⟩ := hw; go_simp; try rfl)⟩) Hb.out ?_
            refine wpAnyH_take (i := 13) (by simp only [List.getElem?_toArray, List.getElem?_cons_succ, List.getElem?_cons_zero]; rfl) (by kernel_rfl) (by kernel_rfl) (by kernel_rfl) (by intro _ _ _ h; exact h) (Or.inl ⟨by first | rfl | go_simp, fun w hw => by (obtain ⟨n0, rfl⟩ := hw; go_simp; try rfl)⟩) Hb.out ?_
            try go_frame
            refine wpAnyH_take (i := 14) (by simp only [List.getElem?_toArray, List.getElem?_cons_succ, List.getElem?_cons_zero]; rfl) (by kernel_rfl) (by kernel_rfl) (by kernel_rfl) (by intro _ _ _ h; exact h) (Or.inl ⟨by first | rfl | go_simp, fun w hw => by (obtain ⟨n0, rfl⟩ := hw; go_simp; try rfl)⟩) Hb.out ?_
            refine wpAnyH_take (i := 15) (by simp only [List.getElem?_toArray, List.getElem?_cons_succ, List.getElem?_cons_zero]; rfl) (by kernel_rfl) (by kernel_rfl) (by kernel_rfl) (by intro _ _ _ h; exact h) (Or.inl ⟨by first | rfl | go_simp, fun w hw => by (obtain ⟨n0, rfl⟩ := hw; go_simp; try rfl)⟩) Hb.out ?_
            try go_frame
            refine wpAnyH_take (i := 16) (by simp only [List.getElem?_toArray, List.getElem?_cons_succ, List.getElem?_cons_zero]; rfl) (by kernel_rfl) (by kernel_rfl) (by kernel_rfl) (by intro _ _ _ h; exact h) (Or.inl ⟨by first | rfl | go_simp, fun w hw => by (obtain ⟨n0, rfl⟩ := hw; go_simp; try rfl)⟩) Hb.out ?_
            refine wpAnyH_take (i := 17) (by simp only [List.getElem?_toArray, List.getElem?_cons_succ, List.getElem?_cons_zero]; rfl) (by kernel_rfl) (by kernel_rfl) (by kernel_rfl) (by intro _ _ _ h; exact h) (Or.inl ⟨by first | rfl | go_simp, fun w hw => by (obtain ⟨n0, rfl⟩ := hw; go_simp; try rfl)⟩) Hb.out ?_
            try go_frame
            refine wpAnyH_take (i := 18) (by simp only [List.getElem?_toArray, List.getElem?_cons_succ, List.getElem?_cons_zero]; rfl) (by kernel_rfl) (by kernel_rfl) (by kernel_rfl) (by intro _ _ _ h; exact h) (Or.inl ⟨by first | rfl | go_simp, fun w hw => by (obtain ⟨n0, rfl⟩ := hw; go_simp; try rfl)⟩) Hb.out ?_
            refine wpAnyH_take (i := 19) (by simp only [List.getElem?_toArray, List.getElem?_cons_succ, List.getElem?_cons_zero]; rfl) (by kernel_rfl) (by kernel_rfl) (by kernel_rfl) (by intro _ _ _ h; exact h) (Or.inl ⟨by first | rfl | go_simp, fun w hw => by (obtain ⟨n0, rfl⟩ := hw; go_simp; try rfl)⟩) Hb.out ?_
            try go_frame
            refine wpAnyH_take (i := 20) (by simp only [List.getElem?_toArray, List.getElem?_cons_succ, List.getElem?_cons_zero]; rfl) (by kernel_rfl) (by kernel_rfl) (by kernel_rfl) (by intro _ _ _ h; exact h) (Or.inl ⟨by first | rfl | go_simp, fun w hw => by (obtain ⟨n0, rfl⟩ := hw; go_simp; try rfl)⟩) Hb.out ?_
            refine wpAnyH_take (i := 21) (by simp only [List.getElem?_toArray, List.getElem?_cons_succ, List.getElem?_cons_zero]; rfl) (by kernel_rfl) (by kernel_rfl) (by kernel_rfl) (by intro _ _ _ h; exact h) (Or.inl ⟨by first | rfl | go_simp, fun w hw => by (obtain ⟨n0, rfl⟩ := hw; go_simp; try rfl)⟩) Hb.out ?_
            try go_frame
            refine wpAnyH_take (i := 22) (by simp only [List.getElem?_toArray, List.getElem?_cons_succ, List.getElem?_cons_zero]; rfl) (by kernel_rfl) (by kernel_rfl) (by kernel_rfl) (by intro _ _ _ h; exact h) (Or.inl ⟨by first | rfl | go_simp, fun w hw => by (obtain ⟨n0, rfl⟩ := hw; go_simp; try rfl)⟩) Hb.out ?_
            refine wpAnyH_take (i := 23) (by simp only [List.getElem?_toArray, List.getElem?_cons_succ, List.getElem?_cons_zero]; rfl) (by kernel_rfl) (by kernel_rfl) (by kernel_rfl) (by intro _ _ _ h; exact h) (Or.inl ⟨by first | rfl | go_simp, fun w hw => by (obtain ⟨n0, rfl⟩ := hw; go_simp; try rfl)⟩) Hb.out ?_
            try go_frame
            refine wpAnyH_take (i := 24) (by simp only [List.getElem?_toArray, List.getElem?_cons_succ, List.getElem?_cons_zero]; rfl) (by kernel_rfl) (by kernel_rfl) (by kernel_rfl) (by intro _ _ _ h; exact h) (Or.inl ⟨by first | rfl | go_simp, fun w hw => by (obtain ⟨n0, rfl⟩ := hw; go_simp; try rfl)⟩) Hb.out ?_
            refine wpAnyH_take (i := 25) (by simp only [List.getElem?_toArray, List.getElem?_cons_succ, List.getElem?_cons_zero]; rfl) (by kernel_rfl) (by kernel_rfl) (by kernel_rfl) (by intro _ _ _ h; exact h) (Or.inr ⟨by go_simp, rfl⟩) Hb.out ?_
            try go_frame
            refine wpAnyH_take (i := 26) (by simp only [List.getElem?_toArray, List.getElem?_cons_succ, List.getElem?_cons_zero]; rfl) (by kernel_rfl) (by kernel_rfl) (by kernel_rfl) (by intro _ _ _ h; exact h) (Or.inr ⟨by go_simp, rfl⟩) Hb.out ?_
            refine wpAnyH_take (i := 27) (by simp only [List.getElem?_toArray, List.getElem?_cons_succ, List.getElem?_cons_zero]; rfl) (by kernel_rfl) (by kernel_rfl) (by kernel_rfl) (by intro _ _ _ h; exact h) (Or.inr ⟨by go_simp, rfl⟩) Hb.out ?_
            try go_frame
            refine wpAnyH_take (i := 28) (by simp only [List.getElem?_toArray, List.getElem?_cons_succ, List.getElem?_cons_zero]; rfl) (by kernel_rfl) (by kernel_rfl) (by kernel_rfl) (by intro _ _ _ h; exact h) (Or.inr ⟨by go_simp, rfl⟩) Hb.out ?_
            refine wpAnyH_take (i := 29) (by simp only [List.getElem?_toArray, List.getElem?_cons_succ, List.getElem?_cons_zero]; rfl) (by kernel_rfl) (by kernel_rfl) (by kernel_rfl) (by intro _ _ _ h; exact h) (Or.inr ⟨by go_simp, rfl⟩) Hb.out ?_
            try go_frame
            refine wpAnyH_take (i := 30) (by simp only [List.getElem?_toArray, List.getElem?_cons_succ, List.getElem?_cons_zero]; rfl) (by kernel_rfl) (by kernel_rfl) (by kernel_rfl) (by intro _ _ _ h; exact h) (Or.inr ⟨by go_simp, rfl⟩) Hb.out ?_
            refine wpAnyH_take (i := 31) (by simp only [List.getElem?_toArray, List.getElem?_cons_succ, List.getElem?_cons_zero]; rfl) (by kernel_rfl) (by kernel_rfl) (by kernel_rfl) (by intro _ _ _ h; exact h) (Or.inr ⟨by go_simp, rfl⟩) Hb.out ?_
            try go_frame
            refine wpAnyH_take (i := 32) (by simp only [List.getElem?_toArray, List.getElem?_cons_succ, List.getElem?_cons_zero]; rfl) (by kernel_rfl) (by kernel_rfl) (by kernel_rfl) (by intro _ _ _ h; exact h) (Or.inr ⟨by go_simp, rfl⟩) Hb.out ?_
            refine wpAnyH_take (i := 33) (by simp only [List.getElem?_toArray, List.getElem?_cons_succ, List.getElem?_cons_zero]; rfl) (by kernel_rfl) (by kernel_rfl) (by kernel_rfl) (by intro _ _ _ h; exact h) (Or.inr ⟨by go_simp, rfl⟩) Hb.out ?_
            try go_frame
            refine wpAnyH_take (i := 34) (by simp only [List.getElem?_toArray, List.getElem?_cons_succ, List.getElem?_cons_zero]; rfl) (by kernel_rfl) (by kernel_rfl) (by kernel_rfl) (by intro _ _ _ h; exact h) (Or.inr ⟨by go_simp, rfl⟩) Hb.out ?_
            refine wpAnyH_take (i := 35) (by simp only [List.getElem?_toArray, List.getElem?_cons_succ, List.getElem?_cons_zero]; rfl) (by kernel_rfl) (by kernel_rfl) (by kernel_rfl) (by intro _ _ _ h; exact h) (Or.inr ⟨by go_simp, rfl⟩) Hb.out ?_
            try go_frame
            refine wpAnyH_take (i := 36) (by simp only [List.getElem?_toArray, List.getElem?_cons_succ, List.getElem?_cons_zero]; rfl) (by kernel_rfl) (by kernel_rfl) (by kernel_rfl) (by intro _ _ _ h; exact h) (Or.inr ⟨by go_simp, rfl⟩) Hb.out ?_
            refine wpAnyH_take (i := 37) (by simp only [List.getElem?_toArray, List.getElem?_cons_succ, List.getElem?_cons_zero]; rfl) (by kernel_rfl) (by kernel_rfl) (by kernel_rfl) (by intro _ _ _ h; exact h) (Or.inl ⟨by first | rfl | go_simp, fun w hw => by (obtain ⟨n0, rfl⟩ := hw; go_simp; try rfl)⟩) Hb.out ?_
            try go_frame
            refine wpAnyH_take (i := 38) (by simp only [List.getElem?_toArray, List.getElem?_cons_succ, List.getElem?_cons_zero]; rfl) (by kernel_rfl) (by kernel_rfl) (by kernel_rfl) (by intro _ _ _ h; exact h) (Or.inl ⟨by first | rfl | go_simp, fun w hw => by (obtain ⟨n0, rfl⟩ := hw; go_simp; try rfl)⟩) Hb.out ?_
            refine wpAnyH_take (i := 39) (by simp only [List.getElem?_toArray, List.getElem?_cons_succ, List.getElem?_cons_zero]; rfl) (by kernel_rfl) (by kernel_rfl) (by kernel_rfl) (by intro _ _ _ h; exact h) (Or.inr ⟨by go_simp, rfl⟩) Hb.out ?_
            try go_frame
            refine wpAnyH_take (i := 40) (by simp only [List.getElem?_toArray, List.getElem?_cons_succ, List.getElem?_cons_zero]; rfl) (by kernel_rfl) (by kernel_rfl) (by kernel_rfl) (by intro _ _ _ h; exact h) (Or.inr ⟨by go_simp, rfl⟩) Hb.out ?_
            refine wpAnyH_take (i := 41) (by simp only [List.getElem?_toArray, List.getElem?_cons_succ, List.getElem?_cons_zero]; rfl) (by kernel_rfl) (by kernel_rfl) (by kernel_rfl) (by intro _ _ _ h; exact h) (Or.inr ⟨by go_simp, rfl⟩) Hb.out ?_
            try go_frame
            refine wpAnyH_take (i := 42) (by simp only [List.getElem?_toArray, List.getElem?_cons_succ, List.getElem?_cons_zero]; rfl) (by kernel_rfl) (by kernel_rfl) (by kernel_rfl) (by intro _ _ _ h; exact h) (Or.inr ⟨by go_simp, rfl⟩) Hb.out ?_
            refine wpAnyH_take (i := 43) (by simp only [List.getElem?_toArray, List.getElem?_cons_succ, List.getElem?_cons_zero]; rfl) (by kernel_rfl) (by kernel_rfl) (by kernel_rfl) (by intro _ _ _ h; exact h) (Or.inr ⟨by go_simp, rfl⟩) Hb.out ?_
            try go_frame
            refine wpAnyH_take (i := 44) (by simp only [List.getElem?_toArray, List.getElem?_cons_succ, List.getElem?_cons_zero]; rfl) (by kernel_rfl) (by kernel_rfl) (by kernel_rfl) (by intro _ _ _ h; exact h) (Or.inr ⟨by go_simp, rfl⟩) Hb.out ?_
            refine wpAnyH_take (i := 45) (by simp only [List.getElem?_toArray, List.getElem?_cons_succ, List.getElem?_cons_zero]; rfl) (by kernel_rfl) (by kernel_rfl) (by kernel_rfl) (by intro _ _ _ h; exact h) (Or.inr ⟨by go_simp, rfl⟩) Hb.out ?_
            try go_frame
            refine wpAnyH_take (i := 46) (by simp only [List.getElem?_toArray, List.getElem?_cons_succ, List.getElem?_cons_zero]; rfl) (by kernel_rfl) (by kernel_rfl) (by kernel_rfl) (by intro _ _ _ h; exact h) (Or.inr ⟨by go_simp, rfl⟩) Hb.out ?_
            refine wpAnyH_take (i := 47) (by simp only [List.getElem?_toArray, List.getElem?_cons_succ, List.getElem?_cons_zero]; rfl) (by kernel_rfl) (by kernel_rfl) (by kernel_rfl) (by intro _ _ _ h; exact h) (Or.inr ⟨by go_simp, rfl⟩) Hb.out ?_
            try go_frame
            refine wpAnyH_take (i := 48) (by simp only [List.getElem?_toArray, List.getElem?_cons_succ, List.getElem?_cons_zero]; rfl) (by kernel_rfl) (by kernel_rfl) (by kernel_rfl) (by intro _ _ _ h; exact h) (Or.inr ⟨by go_simp, rfl⟩) Hb.out ?_
            refine wpAnyH_take (i := 49) (by simp only [List.getElem?_toArray, List.getElem?_cons_succ, List.getElem?_cons_zero]; rfl) (by kernel_rfl) (by kernel_rfl) (by kernel_rfl) (by intro _ _ _ h; exact h) (Or.inr ⟨by go_simp, rfl⟩) Hb.out ?_
            try go_frame
            refine wpAnyH_take (i := 50) (by simp only [List.getElem?_toArray, List.getElem?_cons_succ, List.getElem?_cons_zero]; rfl) (by kernel_rfl) (by kernel_rfl) (by kernel_rfl) (by intro _ _ _ h; exact h) (Or.inr ⟨by go_simp, rfl⟩) Hb.out ?_
            refine wpAnyH_take (i := 51) (by simp only [List.getElem?_toArray, List.getElem?_cons_succ, List.getElem?_cons_zero]; rfl) (by kernel_rfl) (by kernel_rfl) (by kernel_rfl) (by intro _ _ _ h; exact h) (Or.inl ⟨by first | rfl | go_simp, fun w hw => by (obtain ⟨n0, rfl⟩ := hw; go_simp; try rfl)⟩) Hb.out ?_
            try go_frame
            refine wpAnyH_done (by kernel_rfl) ?_ _
            (obtain ⟨n0, rfl⟩ := Hb.out; go_wp2_with fail; go_ret; exact ⟨by rw [decide_eq_false Hres.out]; rfl, _, rfl⟩)
        · have q1 : (xh != yh) = true := by simp [h0]
          have Hres := Lib.hid (Hdiff.out (fun e => h0 (congrArg Prod.fst e)))
          clear h0
          refine wpAnyH_take (i := 0) (by simp only [List.getElem?_toArray, List.getElem?_cons_zero]; rfl) (by kernel_rfl) (by kernel_rfl) (by kernel_rfl) (by intro _ _ _ h; exact h) (Or.inl ⟨by first | rfl | go_simp, fun w hw => by (obtain ⟨n0, rfl⟩ := hw; go_simp; try rfl)⟩) Hb.out ?_
          refine wpAnyH_take (i := 1) (by simp only [List.getElem?_toArray, List.getElem?_cons_succ, List.getElem?_cons_zero]; rfl) (by kernel_rfl) (by kernel_rfl) (by kernel_rfl) (by intro _ _ _ h; exact h) (Or.inl ⟨by first | rfl | go_simp, fun w hw => by (obtain ⟨n0, rfl⟩ := hw; go_simp; try rfl)⟩) Hb.out ?_
          try go_frame
          refine wpAnyH_take (i := 2) (by simp only [List.getElem?_toArray, List.getElem?_cons_succ, List.getElem?_cons_zero]; rfl) (by kernel_rfl) (by kernel_rfl) (by kernel_rfl) (by intro _ _ _ h; exact h) (Or.inl ⟨by first | rfl | go_simp, fun w hw => by (obtain ⟨n0, rfl⟩ := hw; go_simp; try rfl)⟩) Hb.out ?_
          refine wpAnyH_take (i := 3) (by simp only [List.getElem?_toArray, List.getElem?_cons_succ, List.getElem?_cons_zero]; rfl) (by kernel_rfl) (by kernel_rfl) (by kernel_rfl) (by intro _ _ _ h; exact h) (Or.inl ⟨by first | rfl | go_simp, fun w hw => by (obtain ⟨n0, rfl⟩ := hw; go_simp; try rfl)⟩) Hb.out ?_
          try go_frame
          refine wpAnyH_take (i := 4) (by simp only [List.getElem?_toArray, List.getElem?_cons_succ, List.getElem?_cons_zero]; rfl) (by kernel_rfl) (by kernel_rfl) (by kernel_rfl) (by intro _ _ _ h; exact h) (Or.inl ⟨by first | rfl | go_simp, fun w hw => by (obtain ⟨n0, rfl⟩ := hw; go_simp; try rfl)⟩) Hb.out ?_
          refine wpAnyH_take (i := 5) (by simp only [List.getElem?_toArray, List.getElem?_cons_succ, List.getElem?_cons_zero]; rfl) (by kernel_rfl) (by kernel_rfl) (by kernel_rfl) (by intro _ _ _ h; exact h) (Or.inl ⟨by first | rfl | go_simp, fun w hw => by (obtain ⟨n0, rfl⟩ := hw; go_simp; try rfl)⟩) Hb.out ?_
          try go_frame
          refine wpAnyH_take (i := 6) (by simp only [List.getElem?_toArray, List.getElem?_cons_succ, List.getElem?_cons_zero]; rfl) (by kernel_rfl) (by kernel_rfl) (by kernel_rfl) (by intro _ _ _ h; exact h) (Or.inl ⟨by first | rfl | go_simp, fun w hw => by (obtain ⟨n0, rfl⟩ := hw; go_simp; try rfl)⟩) Hb.out ?_
          refine wpAnyH_take (i := 7) (by simp only [List.getElem?_toArray, List.getElem?_cons_succ, List.getElem?_cons_zero]; rfl) (by kernel_rfl) (by kernel_rfl) (by kernel_rfl) (by intro _ _ _ h; exact h) (Or.inl ⟨by first | rfl | go_simp, fun w hw => by (obtain ⟨n0, rfl⟩ := hw; go_simp; try rfl)⟩) Hb.out ?_
          try go_frame
          refine wpAnyH_take (i := 8) (by simp only [List.getElem?_toArray, List.getElem?_cons_succ, List.getElem?_cons_zero]; rfl) (by kernel_rfl) (by kernel_rfl) (by kernel_rfl) (by intro _ _ _ h; exact h) (Or.inl ⟨by first | rfl | go_simp, fun w hw => by (obtain ⟨n0, rfl⟩ := hw; go_simp; try rfl)⟩) Hb.out ?_
          refine wpAnyH_take (i := 9) (by simp only [List.getElem?_toArray, List.getElem?_cons_succ, List.getElem?_cons_zero]; rfl) (by kernel_rfl) (by kernel_rfl) (by kernel_rfl) (by intro _ _ _ h; exact h) (Or.inl ⟨by first | rfl | go_simp, fun w hw => by (obtain ⟨n0, rfl⟩ := hw; go_simp; try rfl)⟩) Hb.out ?_
          try go_frame
          refine wpAnyH_take (i := 10) (by simp only [List.getElem?_toArray, List.getElem?_cons_succ, List.getElem?_cons_zero]; rfl) (by kernel_rfl) (by kernel_rfl) (by kernel_rfl) (by intro _ _ _ h; exact h) (Or.inl ⟨by first | rfl | go_simp, fun w hw => by (obtain ⟨n0, rfl⟩ := hw; go_simp; try rfl)⟩) Hb.out ?_
          refine wpAnyH_take (i := 11) (by simp only [List.getElem?_toArray, List.getElem?_cons_succ, List.getElem?_cons_zero]; rfl) (by kernel_rfl) (by kernel_rfl) (by kernel_rfl) (by intro _ _ _ h; exact h) (Or.inl ⟨by first | rfl | go_simp, fun w hw => by (obtain ⟨n0, rfl⟩ := hw; go_simp; try rfl)⟩) Hb.out ?_
          try go_frame
          refine wpAnyH_take (i := 12) (by simp only [List.getElem?_toArray, List.getElem?_cons_succ, List.getElem?_cons_zero]; rfl) (by kernel_rfl) (by kernel_rfl) (by kernel_rfl) (by intro _ _ _ h; exact h) (Or.inr ⟨by go_simp, rfl⟩) Hb.out ?_
          refine wpAnyH_take (i := 13) (by simp only [List.getElem?_toArray, List.getElem?_cons_succ, List.getElem?_cons_zero]; rfl) (by kernel_rfl) (by kernel_rfl) (by kernel_rfl) (by intro _ _ _ h; exact h) (Or.inr ⟨by go_simp, rfl⟩) Hb.out ?_
          try go_frame
          refine wpAnyH_take (i := 14) (by simp only [List.getElem?_toArray, List.getElem?_cons_succ, List.getElem?_cons_zero]; rfl) (by kernel_rfl) (by kernel_rfl) (by kernel_rfl) (by intro _ _ _ h; exact h) (Or.inr ⟨by go_simp, rfl⟩) Hb.out ?_
          refine wpAnyH_take (i := 15) (by simp only [List.getElem?_toArray, List.getElem?_cons_succ, List.getElem?_cons_zero]; rfl) (by kernel_rfl) (by kernel_rfl) (by kernel_rfl) (by intro _ _ _ h; exact h) (Or.inr ⟨by go_simp, rfl⟩) Hb.out ?_
          try go_frame
          refine wpAnyH_take (i := 16) (by simp only [List.getElem?_toArray, List.getElem?_cons_succ, List.getElem?_cons_zero]; rfl) (by kernel_rfl) (by kernel_rfl) (by kernel_rfl) (by intro _ _ _ h; exact h) (Or.inr ⟨by go_simp, rfl⟩) Hb.out ?_
          refine wpAnyH_take (i := 17) (by simp only [List.getElem?_toArray, List.getElem?_cons_succ, List.getElem?_cons_zero]; rfl) (by kernel_rfl) (by kernel_rfl) (by kernel_rfl) (by intro _ _ _ h; exact h) (Or.inr ⟨by go_simp, rfl⟩) Hb.out ?_
          try go_frame
          refine wpAnyH_take (i := 18) (by simp only [List.getElem?_toArray, List.getElem?_cons_succ, List.getElem?_cons_zero]; rfl) (by kernel_rfl) (by kernel_rfl) (by kernel_rfl) (by intro _ _ _ h; exact h) (Or.inr ⟨by go_simp, rfl⟩) Hb.out ?_
          refine wpAnyH_take (i := 19) (by simp only [List.getElem?_toArray, List.getElem?_cons_succ, List.getElem?_cons_zero]; rfl) (by kernel_rfl) (by kernel_rfl) (by kernel_rfl) (by intro _ _ _ h; exact h) (Or.inr ⟨by go_simp, rfl⟩) Hb.out ?_
          try go_frame
          refine wpAnyH_take (i := 20) (by simp only [List.getElem?_toArray, List.getElem?_cons_succ, List.getElem?_cons_zero]; rfl) (by kernel_rfl) (by kernel_rfl) (by kernel_rfl) (by intro _ _ _ h; exact h) (Or.inr ⟨by go_simp, rfl⟩) Hb.out ?_
          refine wpAnyH_take (i := 21) (by simp only [List.getElem?_toArray, List.getElem?_cons_succ, List.getElem?_cons_zero]; rfl) (by kernel_rfl) (by kernel_rfl) (by kernel_rfl) (by intro _ _ _ h; exact h) (Or.inr ⟨by go_simp, rfl⟩) Hb.out ?_
          try go_frame
          refine wpAnyH_take (i := 22) (by simp only [List.getElem?_toArray, List.getElem?_cons_succ, List.getElem?_cons_zero]; rfl) (by kernel_rfl) (by kernel_rfl) (by kernel_rfl) (by intro _ _ _ h; exact h) (Or.inr ⟨by go_simp, rfl⟩) Hb.out ?_
          refine wpAnyH_take (i := 23) (by simp only [List.getElem?_toArray, List.getElem?_cons_succ, List.getElem?_cons_zero]; rfl) (by kernel_rfl) (by kernel_rfl) (by kernel_rfl) (by intro _ _ _ h; exact h) (Or.inl ⟨by first | rfl | go_simp, fun w hw => by (obtain ⟨n0, rfl⟩ := hw; go_simp; try rfl)⟩) Hb.out ?_
          try go_frame
          refine wpAnyH_take (i := 24) (by simp only [List.getElem?_toArray, List.getElem?_cons_succ, List.getElem?_cons_zero]; rfl) (by kernel_rfl) (by kernel_rfl) (by kernel_rfl) (by intro _ _ _ h; exact h) (Or.inl ⟨by first | rfl | go_simp, fun w hw => by (obtain ⟨n0, rfl⟩ := hw; go_simp; try rfl)⟩) Hb.out ?_
          refine wpAnyH_take (i := 25) (by simp only [List.getElem?_toArray, List.getElem?_cons_succ, List.getElem?_cons_zero]; rfl) (by kernel_rfl) (by kernel_rfl) (by kernel_rfl) (by intro _ _ _ h; exact h) (Or.inr ⟨by go_simp, rfl⟩) Hb.out ?_
          try go_frame
          refine wpAnyH_take (i := 26) (by simp only [List.getElem?_toArray, List.getElem?_cons_succ, List.getElem?_cons_zero]; rfl) (by kernel_rfl) (by kernel_rfl) (by kernel_rfl) (by intro _ _ _ h; exact h) (Or.inr ⟨by go_simp, rfl⟩) Hb.out ?_
          refine wpAnyH_take (i := 27) (by simp only [List.getElem?_toArray, List.getElem?_cons_succ, List.getElem?_cons_zero]; rfl) (by kernel_rfl) (by kernel_rfl) (by kernel_rfl) (by intro _ _ _ h; exact h) (Or.inr ⟨by go_simp, rfl⟩) Hb.out ?_
          try go_frame
          refine wpAnyH_take (i := 28) (by simp only [List.getElem?_toArray, List.getElem?_cons_succ, List.getElem?_cons_zero]; rfl) (by kernel_rfl) (by kernel_rfl) (by kernel_rfl) (by intro _ _ _ h; exact h) (Or.inr ⟨by go_simp, rfl⟩) Hb.out ?_
          refine wpAnyH_take (i := 29) (by simp only [List.getElem?_toArray, List.getElem?_cons_succ, List.getElem?_cons_zero]; rfl) (by kernel_rfl) (by kernel_rfl) (by kernel_rfl) (by intro _ _ _ h; exact h) (Or.inr ⟨by go_simp, rfl⟩) Hb.out ?_
          try go_frame
          refine wpAnyH_take (i := 30) (by simp only [List.getElem?_toArray, List.getElem?_cons_succ, List.getElem?_cons_zero]; rfl) (by kernel_rfl) (by kernel_rfl) (by kernel_rfl) (by intro _ _ _ h; exact h) (Or.inr ⟨by go_simp, rfl⟩) Hb.out ?_
          refine wpAnyH_take (i := 31) (by simp only [List.getElem?_toArray, List.getElem?_cons_succ, List.getElem?_cons_zero]; rfl) (by kernel_rfl) (by kernel_rfl) (by kernel_rfl) (by intro _ _ _ h; exact h) (Or.inr ⟨by go_simp, rfl⟩) Hb.out ?_
          try go_frame
          refine wpAnyH_take (i := 32) (by simp only [List.getElem?_toArray, List.getElem?_cons_succ, List.getElem?_cons_zero]; rfl) (by kernel_rfl) (by kernel_rfl) (by kernel_rfl) (by intro _ _ _ h; exact h) (Or.inr ⟨by go_simp, rfl⟩) Hb.out ?_
          refine wpAnyH_take (i := 33) (by simp only [List.getElem?_toArray, List.getElem?_cons_succ, List.getElem?_cons_zero]; rfl) (by kernel_rfl) (by kernel_rfl) (by kernel_rfl) (by intro _ _ _ h; exact h) (Or.inr ⟨by go_simp, rfl⟩) Hb.out ?_
          try go_frame
          refine wpAnyH_take (i := 34) (by simp only [List.getElem?_toArray, List.getElem?_cons_succ, List.getElem?_cons_zero]; rfl) (by kernel_rfl) (by kernel_rfl) (by kernel_rfl) (by intro _ _ _ h; exact h) (Or.inr ⟨by go_simp, rfl⟩) Hb.out ?_
          refine wpAnyH_take (i := 35) (by simp only [List.getElem?_toArray, List.getElem?_cons_succ, List.getElem?_cons_zero]; rfl) (by kernel_rfl) (by kernel_rfl) (by kernel_rfl) (by intro _ _ _ h; exact h) (Or.inr ⟨by go_simp, rfl⟩) Hb.out ?_
          try go_frame
          refine wpAnyH_take (i := 36) (by simp only [List.getElem?_toArray, List.getElem?_cons_succ, List.getElem?_cons_zero]; rfl) (by kernel_rfl) (by kernel_rfl) (by kernel_rfl) (by intro _ _ _ h; exact h) (Or.inr ⟨by go_simp, rfl⟩) Hb.out ?_
          refine wpAnyH_take (i := 37) (by simp only [List.getElem?_toArray, List.getElem?_cons_succ, List.getElem?_cons_zero]; rfl) (by kernel_rfl) (by kernel_rfl) (by kernel_rfl) (by intro _ _ _ h; exact h) (Or.inl ⟨by first | rfl | go_simp, fun w hw => by (obtain ⟨n0, rfl⟩ := hw; go_simp; try rfl)⟩) Hb.out ?_
          try go_frame
          refine wpAnyH_take (i := 38) (by simp only [List.getElem?_toArray, List.getElem?_cons_succ, List.getElem?_cons_zero]; rfl) (by kernel_rfl) (by kernel_rfl) (by kernel_rfl) (by intro _ _ _ h; exact h) (Or.inl ⟨by first | rfl | go_simp, fun w hw => by (obtain ⟨n0, rfl⟩ := hw; go_simp; try rfl)⟩) Hb.out ?_
          refine wpAnyH_take (i := 39) (by simp only [List.getElem?_toArray, List.getElem?_cons_succ, List.getElem?_cons_zero]; rfl) (by kernel_rfl) (by kernel_rfl) (by kernel_rfl) (by intro _ _ _ h; exact h) (Or.inr ⟨by go_simp, rfl⟩) Hb.out ?_
          try go_frame
          refine wpAnyH_take (i := 40) (by simp only [List.getElem?_toArray, List.getElem?_cons_succ, List.getElem?_cons_zero]; rfl) (by kernel_rfl) (by kernel_rfl) (by kernel_rfl) (by intro _ _ _ h; exact h) (Or.inr ⟨by go_simp, rfl⟩) Hb.out ?_
          refine wpAnyH_take (i := 41) (by simp only [List.getElem?_toArray, List.getElem?_cons_succ, List.getElem?_cons_zero]; rfl) (by kernel_rfl) (by kernel_rfl) (by kernel_rfl) (by intro _ _ _ h; exact h) (Or.inr ⟨by go_simp, rfl⟩) Hb.out ?_
          try go_frame
          refine wpAnyH_take (i := 42) (by simp only [List.getElem?_toArray, List.getElem?_cons_succ, List.getElem?_cons_zero]; rfl) (by kernel_rfl) (by kernel_rfl) (by kernel_rfl) (by intro _ _ _ h; exact h) (Or.inr ⟨by go_simp, rfl⟩) Hb.out ?_
          refine wpAnyH_take (i := 43) (by simp only [List.getElem?_toArray, List.getElem?_cons_succ, List.getElem?_cons_zero]; rfl) (by kernel_rfl) (by kernel_rfl) (by kernel_rfl) (by intro _ _ _ h; exact h) (Or.inr ⟨by go_simp, rfl⟩) Hb.out ?_
          try go_frame
          refine wpAnyH_take (i := 44) (by simp only [List.getElem?_toArray, List.getElem?_cons_succ, List.getElem?_cons_zero]; rfl) (by kernel_rfl) (by kernel_rfl) (by kernel_rfl) (by intro _ _ _ h; exact h) (Or.inr ⟨by go_simp, rfl⟩) Hb.out ?_
          refine wpAnyH_take (i := 45) (by simp only [List.getElem?_toArray, List.getElem?_cons_succ, List.getElem?_cons_zero]; rfl) (by kernel_rfl) (by kernel_rfl) (by kernel_rfl) (by intro _ _ _ h; exact h) (Or.inr ⟨by go_simp, rfl⟩) Hb.out ?_
          try go_frame
          refine wpAnyH_take (i := 46) (by simp only [List.getElem?_toArray, List.getElem?_cons_succ, List.getElem?_cons_zero]; rfl) (by kernel_rfl) (by kernel_rfl) (by kernel_rfl) (by intro _ _ _ h; exact h) (Or.inr ⟨by go_simp, rfl⟩) Hb.out ?_
          refine wpAnyH_take (i := 47) (by simp only [List.getElem?_toArray, List.getElem?_cons_succ, List.getElem?_cons_zero]; rfl) (by kernel_rfl) (by kernel_rfl) (by kernel_rfl) (by intro _ _ _ h; exact h) (Or.inr ⟨by go_simp, rfl⟩) Hb.out ?_
          try go_frame
          refine wpAnyH_take (i := 48) (by simp only [List.getElem?_toArray, List.getElem?_cons_succ, List.getElem?_cons_zero]; rfl) (by kernel_rfl) (by kernel_rfl) (by kernel_rfl) (by intro _ _ _ h; exact h) (Or.inr ⟨by go_simp, rfl⟩) Hb.out ?_
          refine wpAnyH_take (i := 49) (by simp only [List.getElem?_toArray, List.getElem?_cons_succ, List.getElem?_cons_zero]; rfl) (by kernel_rfl) (by kernel_rfl) (by kernel_rfl) (by intro _ _ _ h; exact h) (Or.inr ⟨by go_simp, rfl⟩) Hb.out ?_
          try go_frame
          refine wpAnyH_take (i := 50) (by simp only [List.getElem?_toArray, List.getElem?_cons_succ, List.getElem?_cons_zero]; rfl) (by kernel_rfl) (by kernel_rfl) (by kernel_rfl) (by intro _ _ _ h; exact h) (Or.inr ⟨by go_simp, rfl⟩) Hb.out ?_
          refine wpAnyH_take (i := 51) (by simp only [List.getElem?_toArray, List.getElem?_cons_succ, List.getElem?_cons_zero]; rfl) (by kernel_rfl) (by kernel_rfl) (by kernel_rfl) (by intro _ _ _ h; exact h) (Or.inl ⟨by first | rfl | go_simp, fun w hw => by (obtain ⟨n0, rfl⟩ := hw; go_simp; try rfl)⟩) Hb.out ?_
          try go_frame
          refine wpAnyH_done (by kernel_rfl) ?_ _
          (obtain ⟨n0, rfl⟩ := Hb.out; go_wp2_with fail; go_ret; exact ⟨by rw [decide_eq_false Hres.out]; rfl, _, rfl⟩)
      · obtain rfl : na = k := by omega
        have Hres : Hid (la.map LP.key = lb.map LP.key) := take_all (by rw [List.length_map, ← Hn.out.1]; exact htk) (by rw [List.length_map, List.length_map, ← Hn.out.1, ← Hn.out.2])
        clear hkn htk
        go_wp2_with fail
        go_ret
        exact ⟨by rw [decide_eq_true Hres.out]; rfl, q, rfl⟩
  · have hq0 : ((na : Int) != (nb : Int)) = true := by simp; omega
    have Hres : Hid (¬ la.map LP.key = lb.map LP.key) := fun h => by
      have := congrArg List.length h
      rw [List.length_map, List.length_map, ← Hn.out.1, ← Hn.out.2] at this
      exact hab' this
    clear hab'
    go_enter Tryd.func10, Tryd.ntmps10
    go_wp2_with fail
    go_ret
    exact ⟨by rw [decide_eq_false Hres.out]; rfl, 0, rfl⟩
end Go.Proofs.YtapjdndcnenadaaDoor
